/- For each Go function that the laws reach: a function on plain values with the same answers, and the proof that the call comes to them (none: nothing is told). Conditions: none beside each theorem's own. Written by gen.py out of the print of the loaded program. -/
import Derived.Test.YtjmkalkckpffiaaProg
import Derived.Test.YtjmkalkckpffiaaRf3
import Derived.KernelRfl
set_option linter.unusedVariables false
set_option linter.unusedSimpArgs false
namespace Go.Proofs.Ytjmkalkckpffiaa
open Go Go.Proofs.Ytjmkalkckpffiaa.Sp

structure T_api_Head where
  f_Age : Int
  f_Kind : Int
  f_Id : Int
  f_Adv : Int
  f_Seq : Int
  f_Sum : Int
  f_Len : Int
  deriving Inhabited, DecidableEq
def enc_T_api_Head (x : T_api_Head) : List Value := [.int .i64 x.f_Age, .int .i64 x.f_Kind, .int .i64 x.f_Id, .int .i64 x.f_Adv, .int .i64 x.f_Seq, .int .i64 x.f_Sum, .int .i64 x.f_Len]
theorem len_T_api_Head (x : T_api_Head) : (enc_T_api_Head x).length = 7 := rfl
theorem one_T_api_Head (x : T_api_Head) : ∀ v ∈ enc_T_api_Head x, v.oneCell' = true := by intro v hv; simp only [enc_T_api_Head, List.mem_cons, List.not_mem_nil, or_false] at hv; rcases hv with rfl | rfl | rfl | rfl | rfl | rfl | rfl <;> rfl
def k_T_api_Head : Kd T_api_Head := kFlat enc_T_api_Head 7 len_T_api_Head one_T_api_Head
structure T_api_Key where
  f_Kind : Int
  f_Id : Int
  f_Adv : Int
  deriving Inhabited, DecidableEq
def enc_T_api_Key (x : T_api_Key) : List Value := [.int .i64 x.f_Kind, .int .i64 x.f_Id, .int .i64 x.f_Adv]
theorem len_T_api_Key (x : T_api_Key) : (enc_T_api_Key x).length = 3 := rfl
theorem one_T_api_Key (x : T_api_Key) : ∀ v ∈ enc_T_api_Key x, v.oneCell' = true := by intro v hv; simp only [enc_T_api_Key, List.mem_cons, List.not_mem_nil, or_false] at hv; rcases hv with rfl | rfl | rfl <;> rfl
def k_T_api_Key : Kd T_api_Key := kFlat enc_T_api_Key 3 len_T_api_Key one_T_api_Key
structure T_api_Link where
  f_Kind : Int
  f_Id : Int
  f_Data : Int
  f_Cost : Int
  deriving Inhabited, DecidableEq
def enc_T_api_Link (x : T_api_Link) : List Value := [.int .i64 x.f_Kind, .int .i64 x.f_Id, .int .i64 x.f_Data, .int .i64 x.f_Cost]
theorem len_T_api_Link (x : T_api_Link) : (enc_T_api_Link x).length = 4 := rfl
theorem one_T_api_Link (x : T_api_Link) : ∀ v ∈ enc_T_api_Link x, v.oneCell' = true := by intro v hv; simp only [enc_T_api_Link, List.mem_cons, List.not_mem_nil, or_false] at hv; rcases hv with rfl | rfl | rfl | rfl <;> rfl
def k_T_api_Link : Kd T_api_Link := kFlat enc_T_api_Link 4 len_T_api_Link one_T_api_Link
structure T_api_Vert where
  f_Kind : Int
  f_Id : Int
  deriving Inhabited, DecidableEq
def enc_T_api_Vert (x : T_api_Vert) : List Value := [.int .i64 x.f_Kind, .int .i64 x.f_Id]
theorem len_T_api_Vert (x : T_api_Vert) : (enc_T_api_Vert x).length = 2 := rfl
theorem one_T_api_Vert (x : T_api_Vert) : ∀ v ∈ enc_T_api_Vert x, v.oneCell' = true := by intro v hv; simp only [enc_T_api_Vert, List.mem_cons, List.not_mem_nil, or_false] at hv; rcases hv with rfl | rfl <;> rfl
def k_T_api_Vert : Kd T_api_Vert := kFlat enc_T_api_Vert 2 len_T_api_Vert one_T_api_Vert
structure T_api_Lsa where
  f_Head : T_api_Head
  f_Flags : Int
  f_Links : List T_api_Link
  f_Bits : Int
  f_Routers : List Int
  f_Verts : List T_api_Vert
  deriving Inhabited, DecidableEq
def k_T_api_Lsa : Kd T_api_Lsa := kIso (kPair k_T_api_Head (kPair (kInt .i64) (kPair (kSl k_T_api_Link) (kPair (kInt .i64) (kPair (kSl (kInt .i64)) (kSl k_T_api_Vert)))))) (fun x => (x.f_Head, x.f_Flags, x.f_Links, x.f_Bits, x.f_Routers, x.f_Verts))
theorem rd_T_api_Lsa {G : Hp} {cs : List Value} {x : T_api_Lsa} (h : k_T_api_Lsa.rd G cs x) : ∃ (A8 : Option Addr) (c8 : Nat) (A10 : Option Addr) (c10 : Nat) (A11 : Option Addr) (c11 : Nat), cs = [.int .i64 x.f_Head.f_Age, .int .i64 x.f_Head.f_Kind, .int .i64 x.f_Head.f_Id, .int .i64 x.f_Head.f_Adv, .int .i64 x.f_Head.f_Seq, .int .i64 x.f_Head.f_Sum, .int .i64 x.f_Head.f_Len, .int .i64 x.f_Flags, .slice A8 x.f_Links.length c8, .int .i64 x.f_Bits, .slice A10 x.f_Routers.length c10, .slice A11 x.f_Verts.length c11] ∧ RdS k_T_api_Link G A8 c8 x.f_Links ∧ RdS (kInt .i64) G A10 c10 x.f_Routers ∧ RdS k_T_api_Vert G A11 c11 x.f_Verts := by
  obtain ⟨_, _, rfl, rfl, ⟨_, _, rfl, rfl, ⟨_, _, rfl, ⟨A8, c8, rfl, h8⟩, ⟨_, _, rfl, rfl, ⟨_, _, rfl, ⟨A10, c10, rfl, h10⟩, ⟨A11, c11, rfl, h11⟩⟩⟩⟩⟩⟩ := h
  exact ⟨A8, c8, A10, c10, A11, c11, rfl, h8, h10, h11⟩
theorem mk_T_api_Lsa {G : Hp} {x : T_api_Lsa} {A8 : Option Addr} {c8 : Nat} {A10 : Option Addr} {c10 : Nat} {A11 : Option Addr} {c11 : Nat} (h8 : RdS k_T_api_Link G A8 c8 x.f_Links) (h10 : RdS (kInt .i64) G A10 c10 x.f_Routers) (h11 : RdS k_T_api_Vert G A11 c11 x.f_Verts) : k_T_api_Lsa.rd G [.int .i64 x.f_Head.f_Age, .int .i64 x.f_Head.f_Kind, .int .i64 x.f_Head.f_Id, .int .i64 x.f_Head.f_Adv, .int .i64 x.f_Head.f_Seq, .int .i64 x.f_Head.f_Sum, .int .i64 x.f_Head.f_Len, .int .i64 x.f_Flags, .slice A8 x.f_Links.length c8, .int .i64 x.f_Bits, .slice A10 x.f_Routers.length c10, .slice A11 x.f_Verts.length c11] x :=
  ⟨_, _, rfl, rfl, ⟨_, _, rfl, rfl, ⟨_, _, rfl, ⟨_, _, rfl, h8⟩, ⟨_, _, rfl, rfl, ⟨_, _, rfl, ⟨_, _, rfl, h10⟩, ⟨_, _, rfl, h11⟩⟩⟩⟩⟩⟩
structure T_api_Packet where
  f_Kind : Int
  f_Router : Int
  f_Bits : Int
  f_Prio : Int
  f_Dr : Int
  f_Bdr : Int
  f_Seen : List Int
  f_Flags : Int
  f_Seq : Int
  f_Heads : List T_api_Head
  f_Keys : List T_api_Key
  f_Lsas : List T_api_Lsa
  deriving Inhabited, DecidableEq
def k_T_api_Packet : Kd T_api_Packet := kIso (kPair (kInt .i64) (kPair (kInt .i64) (kPair (kInt .i64) (kPair (kInt .i64) (kPair (kInt .i64) (kPair (kInt .i64) (kPair (kSl (kInt .i64)) (kPair (kInt .i64) (kPair (kInt .i64) (kPair (kSl k_T_api_Head) (kPair (kSl k_T_api_Key) (kSl k_T_api_Lsa)))))))))))) (fun x => (x.f_Kind, x.f_Router, x.f_Bits, x.f_Prio, x.f_Dr, x.f_Bdr, x.f_Seen, x.f_Flags, x.f_Seq, x.f_Heads, x.f_Keys, x.f_Lsas))
theorem rd_T_api_Packet {G : Hp} {cs : List Value} {x : T_api_Packet} (h : k_T_api_Packet.rd G cs x) : ∃ (A6 : Option Addr) (c6 : Nat) (A9 : Option Addr) (c9 : Nat) (A10 : Option Addr) (c10 : Nat) (A11 : Option Addr) (c11 : Nat), cs = [.int .i64 x.f_Kind, .int .i64 x.f_Router, .int .i64 x.f_Bits, .int .i64 x.f_Prio, .int .i64 x.f_Dr, .int .i64 x.f_Bdr, .slice A6 x.f_Seen.length c6, .int .i64 x.f_Flags, .int .i64 x.f_Seq, .slice A9 x.f_Heads.length c9, .slice A10 x.f_Keys.length c10, .slice A11 x.f_Lsas.length c11] ∧ RdS (kInt .i64) G A6 c6 x.f_Seen ∧ RdS k_T_api_Head G A9 c9 x.f_Heads ∧ RdS k_T_api_Key G A10 c10 x.f_Keys ∧ RdS (kShr G k_T_api_Lsa) G A11 c11 x.f_Lsas := by
  obtain ⟨_, _, rfl, rfl, ⟨_, _, rfl, rfl, ⟨_, _, rfl, rfl, ⟨_, _, rfl, rfl, ⟨_, _, rfl, rfl, ⟨_, _, rfl, rfl, ⟨_, _, rfl, ⟨A6, c6, rfl, h6⟩, ⟨_, _, rfl, rfl, ⟨_, _, rfl, rfl, ⟨_, _, rfl, ⟨A9, c9, rfl, h9⟩, ⟨_, _, rfl, ⟨A10, c10, rfl, h10⟩, ⟨A11, c11, rfl, h11⟩⟩⟩⟩⟩⟩⟩⟩⟩⟩⟩⟩ := h
  exact ⟨A6, c6, A9, c9, A10, c10, A11, c11, rfl, h6, h9, h10, h11⟩
theorem mk_T_api_Packet {G : Hp} {x : T_api_Packet} {A6 : Option Addr} {c6 : Nat} {A9 : Option Addr} {c9 : Nat} {A10 : Option Addr} {c10 : Nat} {A11 : Option Addr} {c11 : Nat} (h6 : RdS (kInt .i64) G A6 c6 x.f_Seen) (h9 : RdS k_T_api_Head G A9 c9 x.f_Heads) (h10 : RdS k_T_api_Key G A10 c10 x.f_Keys) (h11 : RdS (kShr G k_T_api_Lsa) G A11 c11 x.f_Lsas) : k_T_api_Packet.rd G [.int .i64 x.f_Kind, .int .i64 x.f_Router, .int .i64 x.f_Bits, .int .i64 x.f_Prio, .int .i64 x.f_Dr, .int .i64 x.f_Bdr, .slice A6 x.f_Seen.length c6, .int .i64 x.f_Flags, .int .i64 x.f_Seq, .slice A9 x.f_Heads.length c9, .slice A10 x.f_Keys.length c10, .slice A11 x.f_Lsas.length c11] x :=
  ⟨_, _, rfl, rfl, ⟨_, _, rfl, rfl, ⟨_, _, rfl, rfl, ⟨_, _, rfl, rfl, ⟨_, _, rfl, rfl, ⟨_, _, rfl, rfl, ⟨_, _, rfl, ⟨_, _, rfl, h6⟩, ⟨_, _, rfl, rfl, ⟨_, _, rfl, rfl, ⟨_, _, rfl, ⟨_, _, rfl, h9⟩, ⟨_, _, rfl, ⟨_, _, rfl, h10⟩, ⟨_, _, rfl, h11⟩⟩⟩⟩⟩⟩⟩⟩⟩⟩⟩⟩
def fs27 : Array Field := #[Field.mk "Age" 3 0 false "" "" 0, Field.mk "Kind" 3 1 false "" "" 8, Field.mk "Id" 3 2 false "" "" 16, Field.mk "Adv" 3 3 false "" "" 24, Field.mk "Seq" 3 4 false "" "" 32, Field.mk "Sum" 3 5 false "" "" 40, Field.mk "Len" 3 6 false "" "" 48]
def ds27 : TypeDesc := .struct fs27
def fs32 : Array Field := #[Field.mk "Head" 27 0 false "" "" 0, Field.mk "Flags" 3 7 false "" "" 56, Field.mk "Links" 28 8 false "" "" 64, Field.mk "Bits" 3 9 false "" "" 88, Field.mk "Routers" 29 10 false "" "" 96, Field.mk "Verts" 30 11 false "" "" 120]
def ds32 : TypeDesc := .struct fs32
def fs38 : Array Field := #[Field.mk "Kind" 3 0 false "" "" 0, Field.mk "Router" 3 1 false "" "" 8, Field.mk "Bits" 3 2 false "" "" 16, Field.mk "Prio" 3 3 false "" "" 24, Field.mk "Dr" 3 4 false "" "" 32, Field.mk "Bdr" 3 5 false "" "" 40, Field.mk "Seen" 29 6 false "" "" 48, Field.mk "Flags" 3 7 false "" "" 72, Field.mk "Seq" 3 8 false "" "" 80, Field.mk "Heads" 23 9 false "" "" 88, Field.mk "Keys" 36 10 false "" "" 112, Field.mk "Lsas" 22 11 false "" "" 136]
def ds38 : TypeDesc := .struct fs38
def fs43 : Array Field := #[Field.mk "Kind" 3 0 false "" "" 0, Field.mk "Id" 3 1 false "" "" 8, Field.mk "Adv" 3 2 false "" "" 16]
def ds43 : TypeDesc := .struct fs43
def fs57 : Array Field := #[Field.mk "Kind" 3 0 false "" "" 0, Field.mk "Id" 3 1 false "" "" 8, Field.mk "Data" 3 2 false "" "" 16, Field.mk "Cost" 3 3 false "" "" 24]
def ds57 : TypeDesc := .struct fs57
def fs61 : Array Field := #[Field.mk "Kind" 3 0 false "" "" 0, Field.mk "Id" 3 1 false "" "" 8]
def ds61 : TypeDesc := .struct fs61
theorem eg27 : Try.prog.eqGuardType Try.prog.depth 27 = false := by kernel_rfl
theorem eg57 : Try.prog.eqGuardType Try.prog.depth 57 = false := by kernel_rfl
theorem eg61 : Try.prog.eqGuardType Try.prog.depth 61 = false := by kernel_rfl
theorem eq_T_api_Head (x y : T_api_Head) : ((x.f_Age == y.f_Age) && ((x.f_Kind == y.f_Kind) && ((x.f_Id == y.f_Id) && ((x.f_Adv == y.f_Adv) && ((x.f_Seq == y.f_Seq) && ((x.f_Sum == y.f_Sum) && ((x.f_Len == y.f_Len) && (true)))))))) = decide (x = y) := by
  obtain ⟨v1, v2, v3, v4, v5, v6, v7⟩ := x
  obtain ⟨v8, v9, v10, v11, v12, v13, v14⟩ := y
  rw [Bool.eq_iff_iff]
  simp [bytes_eq, and_assoc]
theorem eq_T_api_Link (x y : T_api_Link) : ((x.f_Kind == y.f_Kind) && ((x.f_Id == y.f_Id) && ((x.f_Data == y.f_Data) && ((x.f_Cost == y.f_Cost) && (true))))) = decide (x = y) := by
  obtain ⟨v1, v2, v3, v4⟩ := x
  obtain ⟨v5, v6, v7, v8⟩ := y
  rw [Bool.eq_iff_iff]
  simp [bytes_eq, and_assoc]
theorem eq_T_api_Vert (x y : T_api_Vert) : ((x.f_Kind == y.f_Kind) && ((x.f_Id == y.f_Id) && (true))) = decide (x = y) := by
  obtain ⟨v1, v2⟩ := x
  obtain ⟨v3, v4⟩ := y
  rw [Bool.eq_iff_iff]
  simp [bytes_eq, and_assoc]
theorem isf10 : IsF Try.prog 10 := IsF.mk Try.func10 rfl rfl
theorem isf11 : IsF Try.prog 11 := IsF.mk Try.func11 rfl rfl
theorem isf12 : IsF Try.prog 12 := IsF.mk Try.func12 rfl rfl
theorem isf13 : IsF Try.prog 13 := IsF.mk Try.func13 rfl rfl
theorem isf14 : IsF Try.prog 14 := IsF.mk Try.func14 rfl rfl
theorem isf15 : IsF Try.prog 15 := IsF.mk Try.func15 rfl rfl
theorem isf16 : IsF Try.prog 16 := IsF.mk Try.func16 rfl rfl
theorem isf17 : IsF Try.prog 17 := IsF.mk Try.func17 rfl rfl
theorem isf18 : IsF Try.prog 18 := IsF.mk Try.func18 rfl rfl
theorem isf19 : IsF Try.prog 19 := IsF.mk Try.func19 rfl rfl
theorem isf20 : IsF Try.prog 20 := IsF.mk Try.func20 rfl rfl
theorem isf21 : IsF Try.prog 21 := IsF.mk Try.func21 rfl rfl
theorem isf22 : IsF Try.prog 22 := IsF.mk Try.func22 rfl rfl
theorem isf23 : IsF Try.prog 23 := IsF.mk Try.func23 rfl rfl
theorem isf24 : IsF Try.prog 24 := IsF.mk Try.func24 rfl rfl
theorem isf33 : IsF Try.prog 33 := IsF.mk Try.func33 rfl rfl
theorem isf34 : IsF Try.prog 34 := IsF.mk Try.func34 rfl rfl
theorem isf35 : IsF Try.prog 35 := IsF.mk Try.func35 rfl rfl
theorem isf47 : IsF Try.prog 47 := IsF.mk Try.func47 rfl rfl
theorem isf48 : IsF Try.prog 48 := IsF.mk Try.func48 rfl rfl
theorem isf5 : IsF Try.prog 5 := IsF.mk Try.func5 rfl rfl
theorem isf6 : IsF Try.prog 6 := IsF.mk Try.func6 rfl rfl
theorem isf7 : IsF Try.prog 7 := IsF.mk Try.func7 rfl rfl
theorem isf8 : IsF Try.prog 8 := IsF.mk Try.func8 rfl rfl
theorem isf9 : IsF Try.prog 9 := IsF.mk Try.func9 rfl rfl
theorem fa27_1 {E : List (Nat × Value)} {w : World} {x : Operand} {g o : Nat} (hx : lv E x = some (.pointer (some ⟨g, o, none⟩))) : Run Try.prog E w (.fieldAddr 27 x 1) (.pointer (some ⟨g, o + 1, none⟩)) := fa (sz := 0) hx Try.underlying27 rfl rfl (by kernel_rfl)
theorem fa32_0 {E : List (Nat × Value)} {w : World} {x : Operand} {g o : Nat} (hx : lv E x = some (.pointer (some ⟨g, o, none⟩))) : Run Try.prog E w (.fieldAddr 32 x 0) (.pointer (some ⟨g, o + 0, none⟩)) := fa (sz := 6) hx Try.underlying32 rfl rfl (by kernel_rfl)
theorem fa32_1 {E : List (Nat × Value)} {w : World} {x : Operand} {g o : Nat} (hx : lv E x = some (.pointer (some ⟨g, o, none⟩))) : Run Try.prog E w (.fieldAddr 32 x 1) (.pointer (some ⟨g, o + 7, none⟩)) := fa (sz := 0) hx Try.underlying32 rfl rfl (by kernel_rfl)
theorem fa32_2 {E : List (Nat × Value)} {w : World} {x : Operand} {g o : Nat} (hx : lv E x = some (.pointer (some ⟨g, o, none⟩))) : Run Try.prog E w (.fieldAddr 32 x 2) (.pointer (some ⟨g, o + 8, none⟩)) := fa (sz := 0) hx Try.underlying32 rfl rfl (by kernel_rfl)
theorem fa32_3 {E : List (Nat × Value)} {w : World} {x : Operand} {g o : Nat} (hx : lv E x = some (.pointer (some ⟨g, o, none⟩))) : Run Try.prog E w (.fieldAddr 32 x 3) (.pointer (some ⟨g, o + 9, none⟩)) := fa (sz := 0) hx Try.underlying32 rfl rfl (by kernel_rfl)
theorem fa32_4 {E : List (Nat × Value)} {w : World} {x : Operand} {g o : Nat} (hx : lv E x = some (.pointer (some ⟨g, o, none⟩))) : Run Try.prog E w (.fieldAddr 32 x 4) (.pointer (some ⟨g, o + 10, none⟩)) := fa (sz := 0) hx Try.underlying32 rfl rfl (by kernel_rfl)
theorem fa32_5 {E : List (Nat × Value)} {w : World} {x : Operand} {g o : Nat} (hx : lv E x = some (.pointer (some ⟨g, o, none⟩))) : Run Try.prog E w (.fieldAddr 32 x 5) (.pointer (some ⟨g, o + 11, none⟩)) := fa (sz := 0) hx Try.underlying32 rfl rfl (by kernel_rfl)
theorem fa38_0 {E : List (Nat × Value)} {w : World} {x : Operand} {g o : Nat} (hx : lv E x = some (.pointer (some ⟨g, o, none⟩))) : Run Try.prog E w (.fieldAddr 38 x 0) (.pointer (some ⟨g, o + 0, none⟩)) := fa (sz := 0) hx Try.underlying38 rfl rfl (by kernel_rfl)
theorem fa38_1 {E : List (Nat × Value)} {w : World} {x : Operand} {g o : Nat} (hx : lv E x = some (.pointer (some ⟨g, o, none⟩))) : Run Try.prog E w (.fieldAddr 38 x 1) (.pointer (some ⟨g, o + 1, none⟩)) := fa (sz := 0) hx Try.underlying38 rfl rfl (by kernel_rfl)
theorem fa38_11 {E : List (Nat × Value)} {w : World} {x : Operand} {g o : Nat} (hx : lv E x = some (.pointer (some ⟨g, o, none⟩))) : Run Try.prog E w (.fieldAddr 38 x 11) (.pointer (some ⟨g, o + 11, none⟩)) := fa (sz := 0) hx Try.underlying38 rfl rfl (by kernel_rfl)
theorem fa38_9 {E : List (Nat × Value)} {w : World} {x : Operand} {g o : Nat} (hx : lv E x = some (.pointer (some ⟨g, o, none⟩))) : Run Try.prog E w (.fieldAddr 38 x 9) (.pointer (some ⟨g, o + 9, none⟩)) := fa (sz := 0) hx Try.underlying38 rfl rfl (by kernel_rfl)
theorem mo_ : Try.prog.follows .mixedOrders = true := by kernel_rfl
theorem pl38 : PL Try.prog 38 fs38 [(0, 1), (1, 1), (2, 1), (3, 1), (4, 1), (5, 1), (6, 1), (7, 1), (8, 1), (9, 1), (10, 1), (11, 1)] := ⟨Try.underlying38, by kernel_rfl⟩
theorem sh27 : Try.prog.stoodInHeld 27 = false := by kernel_rfl
theorem sh57 : Try.prog.stoodInHeld 57 = false := by kernel_rfl
theorem sh61 : Try.prog.stoodInHeld 61 = false := by kernel_rfl
theorem ti22 : TI Try.prog 22 (.slice 32) (.slice none 0 0) 1 24 := TI.mk' Try.underlying22 (by kernel_rfl)
theorem ti27 : TI Try.prog 27 ds27 (.agg [(.int .i64 0), (.int .i64 0), (.int .i64 0), (.int .i64 0), (.int .i64 0), (.int .i64 0), (.int .i64 0)].toArray) 7 56 := TI.mk' Try.underlying27 (by kernel_rfl)
theorem ti28 : TI Try.prog 28 (.slice 57) (.slice none 0 0) 1 24 := TI.mk' Try.underlying28 (by kernel_rfl)
theorem ti29 : TI Try.prog 29 (.slice 3) (.slice none 0 0) 1 24 := TI.mk' Try.underlying29 (by kernel_rfl)
theorem ti3 : TI Try.prog 3 (.int .i64) (.int .i64 0) 1 8 := TI.mk' Try.underlying3 (by kernel_rfl)
theorem ti30 : TI Try.prog 30 (.slice 61) (.slice none 0 0) 1 24 := TI.mk' Try.underlying30 (by kernel_rfl)
theorem ti32 : TI Try.prog 32 ds32 (.agg [(.int .i64 0), (.int .i64 0), (.int .i64 0), (.int .i64 0), (.int .i64 0), (.int .i64 0), (.int .i64 0), (.int .i64 0), (.slice none 0 0), (.int .i64 0), (.slice none 0 0), (.slice none 0 0)].toArray) 12 144 := TI.mk' Try.underlying32 (by kernel_rfl)
theorem ti33 : TI Try.prog 33 (.slice 38) (.slice none 0 0) 1 24 := TI.mk' Try.underlying33 (by kernel_rfl)
theorem ti38 : TI Try.prog 38 ds38 (.agg [(.int .i64 0), (.int .i64 0), (.int .i64 0), (.int .i64 0), (.int .i64 0), (.int .i64 0), (.slice none 0 0), (.int .i64 0), (.int .i64 0), (.slice none 0 0), (.slice none 0 0), (.slice none 0 0)].toArray) 12 160 := TI.mk' Try.underlying38 (by kernel_rfl)
theorem ti43 : TI Try.prog 43 ds43 (.agg [(.int .i64 0), (.int .i64 0), (.int .i64 0)].toArray) 3 24 := TI.mk' Try.underlying43 (by kernel_rfl)
theorem ti57 : TI Try.prog 57 ds57 (.agg [(.int .i64 0), (.int .i64 0), (.int .i64 0), (.int .i64 0)].toArray) 4 32 := TI.mk' Try.underlying57 (by kernel_rfl)
theorem ti61 : TI Try.prog 61 ds61 (.agg [(.int .i64 0), (.int .i64 0)].toArray) 2 16 := TI.mk' Try.underlying61 (by kernel_rfl)

/-! ### (*plenum/answer.Owed).Add (function 11) -/
abbrev f_answer_Owed_Add_nil.R := Unit
noncomputable def f_answer_Owed_Add_nil (a1 : T_api_Head) : Option f_answer_Owed_Add_nil.R := some ()
set_option maxHeartbeats 1000000 in
theorem f_answer_Owed_Add_nil.ok {z w : World} {F : Hp} {a1 : T_api_Head} {r : f_answer_Owed_Add_nil.R} (H : f_answer_Owed_Add_nil a1 = some r) (HF : Fits z w F) :
    Calls Try.prog 11 [.pointer none, .agg [.int .i64 a1.f_Age, .int .i64 a1.f_Kind, .int .i64 a1.f_Id, .int .i64 a1.f_Adv, .int .i64 a1.f_Seq, .int .i64 a1.f_Sum, .int .i64 a1.f_Len].toArray].toArray w fun e w' => e = .returned (.tuple #[]) ∧ Fits z w' F := by
  unfold f_answer_Owed_Add_nil at H
  refine enter0 Try.func11 rfl Try.ntmps11 rfl (E := [(0, .pointer none), (1, .agg [.int .i64 a1.f_Age, .int .i64 a1.f_Kind, .int .i64 a1.f_Id, .int .i64 a1.f_Adv, .int .i64 a1.f_Seq, .int .i64 a1.f_Sum, .int .i64 a1.f_Len].toArray)]) rfl ?_
  refine cSeq (fun K1 hK1 => ?_)
  refine cRgn [] trivial ?_
  refine eW (oBox HF rfl) rfl ?_
  rintro _ w1 ⟨g1, rfl, HF1⟩
  refine lEnd (K := fun _ _ => True) ?_
  refine kN (?_)
  refine hK1 _ _ ?_
  refine cSeq (fun K2 hK2 => ?_)
  refine cSeq (fun K3 hK3 => ?_)
  refine cRgn [] trivial ?_
  refine sL (mv rfl) rfl ?_
  refine sL (bPEql0 rfl rfl Try.underlying44) rfl ?_
  refine lEnd (K := fun _ _ => True) ?_
  refine kN (?_)
  refine hK3 _ _ ?_
  refine cT rfl ?_
  refine cRet ?_
  obtain rfl := Option.some.inj H
  refine kR (?_)
  refine ret0 rfl ?_
  have HF2 := HF1.sublist (sl_dc (List.Sublist.refl _))
  exact ⟨rfl, HF2⟩
/-! ### (*plenum/answer.Owed).Clear (function 12) -/
abbrev f_answer_Owed_Clear_nil.R := Unit
noncomputable def f_answer_Owed_Clear_nil : Option f_answer_Owed_Clear_nil.R := some ()
set_option maxHeartbeats 1000000 in
theorem f_answer_Owed_Clear_nil.ok {z w : World} {F : Hp} {r : f_answer_Owed_Clear_nil.R} (H : f_answer_Owed_Clear_nil = some r) (HF : Fits z w F) :
    Calls Try.prog 12 [.pointer none].toArray w fun e w' => e = .returned (.tuple #[]) ∧ Fits z w' F := by
  unfold f_answer_Owed_Clear_nil at H
  refine enter0 Try.func12 rfl Try.ntmps12 rfl (E := [(0, .pointer none)]) rfl ?_
  refine cSeq (fun K1 hK1 => ?_)
  refine cRgn [] trivial ?_
  refine sL (mv rfl) rfl ?_
  refine sL (bPNeq0 rfl rfl Try.underlying44) rfl ?_
  refine lEnd (K := fun _ _ => True) ?_
  refine kN (?_)
  refine hK1 _ _ ?_
  refine cF rfl ?_
  refine cSkip ?_
  obtain rfl := Option.some.inj H
  refine end0 rfl ?_
  exact ⟨rfl, HF⟩
/-! ### (*plenum/answer.Owed).Ack (function 13) -/
abbrev f_answer_Owed_Ack_nil.R := Bool
noncomputable def f_answer_Owed_Ack_nil (a1 : T_api_Head) : Option f_answer_Owed_Ack_nil.R := some false
set_option maxHeartbeats 1000000 in
theorem f_answer_Owed_Ack_nil.ok {z w : World} {F : Hp} {a1 : T_api_Head} {r : f_answer_Owed_Ack_nil.R} (H : f_answer_Owed_Ack_nil a1 = some r) (HF : Fits z w F) :
    Calls Try.prog 13 [.pointer none, .agg [.int .i64 a1.f_Age, .int .i64 a1.f_Kind, .int .i64 a1.f_Id, .int .i64 a1.f_Adv, .int .i64 a1.f_Seq, .int .i64 a1.f_Sum, .int .i64 a1.f_Len].toArray].toArray w fun e w' => e = .returned (.bool r) ∧ Fits z w' F := by
  unfold f_answer_Owed_Ack_nil at H
  refine enter0 Try.func13 rfl Try.ntmps13 rfl (E := [(0, .pointer none), (1, .agg [.int .i64 a1.f_Age, .int .i64 a1.f_Kind, .int .i64 a1.f_Id, .int .i64 a1.f_Adv, .int .i64 a1.f_Seq, .int .i64 a1.f_Sum, .int .i64 a1.f_Len].toArray)]) rfl ?_
  refine cSeq (fun K1 hK1 => ?_)
  refine cRgn [] trivial ?_
  refine eW (oBox HF rfl) rfl ?_
  rintro _ w1 ⟨g1, rfl, HF1⟩
  refine sL (asg rfl) rfl ?_
  refine lEnd (K := fun _ _ => True) ?_
  refine kN (?_)
  refine hK1 _ _ ?_
  refine cSeq (fun K2 hK2 => ?_)
  refine cSeq (fun K3 hK3 => ?_)
  refine cRgn [] trivial ?_
  refine sL (mv rfl) rfl ?_
  refine sL (bPEql0 rfl rfl Try.underlying44) rfl ?_
  refine lEnd (K := fun _ _ => True) ?_
  refine kN (?_)
  refine hK3 _ _ ?_
  refine cT rfl ?_
  refine cSeq (fun K4 hK4 => ?_)
  refine cRgn [] trivial ?_
  refine sL (asg rfl) rfl ?_
  refine lEnd (K := fun _ _ => True) ?_
  refine kN (?_)
  refine hK4 _ _ ?_
  refine cRet ?_
  obtain rfl := Option.some.inj H
  refine kR (?_)
  refine ret1 rfl rfl ?_
  have HF2 := HF1.sublist (sl_dc (List.Sublist.refl _))
  exact ⟨rfl, HF2⟩
/-! ### (*plenum/answer.Owed).Drop (function 14) -/
abbrev f_answer_Owed_Drop_nil.R := Bool
noncomputable def f_answer_Owed_Drop_nil (a1 : T_api_Key) : Option f_answer_Owed_Drop_nil.R := some false
set_option maxHeartbeats 1000000 in
theorem f_answer_Owed_Drop_nil.ok {z w : World} {F : Hp} {a1 : T_api_Key} {r : f_answer_Owed_Drop_nil.R} (H : f_answer_Owed_Drop_nil a1 = some r) (HF : Fits z w F) :
    Calls Try.prog 14 [.pointer none, .agg [.int .i64 a1.f_Kind, .int .i64 a1.f_Id, .int .i64 a1.f_Adv].toArray].toArray w fun e w' => e = .returned (.bool r) ∧ Fits z w' F := by
  unfold f_answer_Owed_Drop_nil at H
  refine enter0 Try.func14 rfl Try.ntmps14 rfl (E := [(0, .pointer none), (1, .agg [.int .i64 a1.f_Kind, .int .i64 a1.f_Id, .int .i64 a1.f_Adv].toArray)]) rfl ?_
  refine cSeq (fun K1 hK1 => ?_)
  refine cRgn [] trivial ?_
  refine eW (oBox HF rfl) rfl ?_
  rintro _ w1 ⟨g1, rfl, HF1⟩
  refine sL (asg rfl) rfl ?_
  refine lEnd (K := fun _ _ => True) ?_
  refine kN (?_)
  refine hK1 _ _ ?_
  refine cSeq (fun K2 hK2 => ?_)
  refine cSeq (fun K3 hK3 => ?_)
  refine cRgn [] trivial ?_
  refine sL (mv rfl) rfl ?_
  refine sL (bPEql0 rfl rfl Try.underlying44) rfl ?_
  refine lEnd (K := fun _ _ => True) ?_
  refine kN (?_)
  refine hK3 _ _ ?_
  refine cT rfl ?_
  refine cSeq (fun K4 hK4 => ?_)
  refine cRgn [] trivial ?_
  refine sL (asg rfl) rfl ?_
  refine lEnd (K := fun _ _ => True) ?_
  refine kN (?_)
  refine hK4 _ _ ?_
  refine cRet ?_
  obtain rfl := Option.some.inj H
  refine kR (?_)
  refine ret1 rfl rfl ?_
  have HF2 := HF1.sublist (sl_dc (List.Sublist.refl _))
  exact ⟨rfl, HF2⟩
/-! ### (*plenum/answer.Owed).Has (function 15) -/
abbrev f_answer_Owed_Has_nil.R := Bool
noncomputable def f_answer_Owed_Has_nil (a1 : T_api_Key) : Option f_answer_Owed_Has_nil.R := some false
set_option maxHeartbeats 1000000 in
theorem f_answer_Owed_Has_nil.ok {z w : World} {F : Hp} {a1 : T_api_Key} {r : f_answer_Owed_Has_nil.R} (H : f_answer_Owed_Has_nil a1 = some r) (HF : Fits z w F) :
    Calls Try.prog 15 [.pointer none, .agg [.int .i64 a1.f_Kind, .int .i64 a1.f_Id, .int .i64 a1.f_Adv].toArray].toArray w fun e w' => e = .returned (.bool r) ∧ Fits z w' F := by
  unfold f_answer_Owed_Has_nil at H
  refine enter0 Try.func15 rfl Try.ntmps15 rfl (E := [(0, .pointer none), (1, .agg [.int .i64 a1.f_Kind, .int .i64 a1.f_Id, .int .i64 a1.f_Adv].toArray)]) rfl ?_
  refine cSeq (fun K1 hK1 => ?_)
  refine cRgn [] trivial ?_
  refine eW (oBox HF rfl) rfl ?_
  rintro _ w1 ⟨g1, rfl, HF1⟩
  refine sL (asg rfl) rfl ?_
  refine lEnd (K := fun _ _ => True) ?_
  refine kN (?_)
  refine hK1 _ _ ?_
  refine cSeq (fun K2 hK2 => ?_)
  refine cSeq (fun K3 hK3 => ?_)
  refine cRgn [] trivial ?_
  refine sL (mv rfl) rfl ?_
  refine sL (bPEql0 rfl rfl Try.underlying44) rfl ?_
  refine lEnd (K := fun _ _ => True) ?_
  refine kN (?_)
  refine hK3 _ _ ?_
  refine cT rfl ?_
  refine cSeq (fun K4 hK4 => ?_)
  refine cRgn [] trivial ?_
  refine sL (asg rfl) rfl ?_
  refine lEnd (K := fun _ _ => True) ?_
  refine kN (?_)
  refine hK4 _ _ ?_
  refine cRet ?_
  obtain rfl := Option.some.inj H
  refine kR (?_)
  refine ret1 rfl rfl ?_
  have HF2 := HF1.sublist (sl_dc (List.Sublist.refl _))
  exact ⟨rfl, HF2⟩
/-! ### (*plenum/answer.Owed).Len (function 16) -/
abbrev f_answer_Owed_Len_nil.R := Int
noncomputable def f_answer_Owed_Len_nil : Option f_answer_Owed_Len_nil.R := some 0
set_option maxHeartbeats 1000000 in
theorem f_answer_Owed_Len_nil.ok {z w : World} {F : Hp} {r : f_answer_Owed_Len_nil.R} (H : f_answer_Owed_Len_nil = some r) (HF : Fits z w F) :
    Calls Try.prog 16 [.pointer none].toArray w fun e w' => e = .returned (.int .i64 r) ∧ Fits z w' F := by
  unfold f_answer_Owed_Len_nil at H
  refine enter0 Try.func16 rfl Try.ntmps16 rfl (E := [(0, .pointer none)]) rfl ?_
  refine cSeq (fun K1 hK1 => ?_)
  refine cRgn [] trivial ?_
  refine sL (asg rfl) rfl ?_
  refine lEnd (K := fun _ _ => True) ?_
  refine kN (?_)
  refine hK1 _ _ ?_
  refine cSeq (fun K2 hK2 => ?_)
  refine cSeq (fun K3 hK3 => ?_)
  refine cRgn [] trivial ?_
  refine sL (mv rfl) rfl ?_
  refine sL (bPEql0 rfl rfl Try.underlying44) rfl ?_
  refine lEnd (K := fun _ _ => True) ?_
  refine kN (?_)
  refine hK3 _ _ ?_
  refine cT rfl ?_
  refine cSeq (fun K4 hK4 => ?_)
  refine cRgn [] trivial ?_
  refine sL (asg rfl) rfl ?_
  refine lEnd (K := fun _ _ => True) ?_
  refine kN (?_)
  refine hK4 _ _ ?_
  refine cRet ?_
  obtain rfl := Option.some.inj H
  refine kR (?_)
  refine ret1 rfl rfl ?_
  exact ⟨rfl, HF⟩
/-! ### (*plenum/answer.Owed).Tick (function 17) -/
abbrev f_answer_Owed_Tick_nil_nil.R := List T_api_Lsa
noncomputable def f_answer_Owed_Tick_nil_nil : Option f_answer_Owed_Tick_nil_nil.R := some []
set_option maxHeartbeats 1000000 in
theorem f_answer_Owed_Tick_nil_nil.ok {z w : World} {F G : Hp} (hG : G ⊆ F) {r : f_answer_Owed_Tick_nil_nil.R} (H : f_answer_Owed_Tick_nil_nil = some r) (HF : Fits z w F) :
    Calls Try.prog 17 [.pointer none, .pointer none].toArray w fun e w' => ∃ (N : Hp) (A0 : Option Addr) (c0 : Nat) (L0 : Hp), e = .returned (.slice A0 r.length c0) ∧ Fits z w' (L0 ++ (N ++ F)) ∧ OwnS (kShr (N ++ G) k_T_api_Lsa) L0 A0 c0 r := by
  unfold f_answer_Owed_Tick_nil_nil at H
  refine enter0 Try.func17 rfl Try.ntmps17 rfl (E := [(0, .pointer none), (1, .pointer none)]) rfl ?_
  refine cSeq (fun K1 hK1 => ?_)
  refine cRgn [] trivial ?_
  refine eW (oBox HF rfl) rfl ?_
  rintro _ w1 ⟨g1, rfl, HF1⟩
  refine sL (asg rfl) rfl ?_
  refine lEnd (K := fun _ _ => True) ?_
  refine kN (?_)
  refine hK1 _ _ ?_
  refine cSeq (fun K2 hK2 => ?_)
  refine cSeq (fun K3 hK3 => ?_)
  refine cRgn [(2, 8)] ⟨rfl, trivial⟩ ?_
  refine sL (mv rfl) rfl ?_
  refine sL (bPEql0 rfl rfl Try.underlying44) rfl ?_
  refine sL (mv rfl) rfl ?_
  refine sN rfl rfl rfl rfl ?_
  refine sN rfl rfl rfl rfl ?_
  refine sN rfl rfl rfl rfl ?_
  refine sN rfl rfl rfl rfl ?_
  refine sN rfl rfl rfl rfl ?_
  refine sN rfl rfl rfl rfl ?_
  refine sL (pkT rfl rfl) rfl ?_
  refine lEnd (K := fun _ _ => True) ?_
  refine kN (?_)
  refine hK3 _ _ ?_
  refine cT rfl ?_
  refine cSeq (fun K4 hK4 => ?_)
  refine cRgn [] trivial ?_
  refine sL (asg rfl) rfl ?_
  refine lEnd (K := fun _ _ => True) ?_
  refine kN (?_)
  refine hK4 _ _ ?_
  refine cRet ?_
  obtain rfl := Option.some.inj H
  refine kR (?_)
  refine ret1 rfl rfl ?_
  have HF2 := HF1.sublist (sl_dc (List.Sublist.refl _))
  exact ⟨[], none, 0, [], rfl, HF2, OwnS.nil⟩
/-! ### slices.Chunk (functions 18, 33): what it makes; how its iterator goes through a slice -/
theorem chunk18.ok {z w : World} {F : Hp} {A : Option Addr} {m c : Nat} {k : Int} (hk : 1 ≤ k) (HF : Fits z w F) :
    Calls Try.prog 18 [.slice A m c, .int .i64 k].toArray w fun e w' => ∃ (g1 : Nat) (g2 : Nat), e = .returned (.func (.func 33) [].toArray [.pointer (some ⟨g1, 0, none⟩), .pointer (some ⟨g2, 0, none⟩)].toArray) ∧ Fits z w' (bk g1 22 [.slice A m c] :: bk g2 3 [.int .i64 k] :: F) := by
  refine enter0 Try.func18 rfl Try.ntmps18 rfl (E := [(0, .slice A m c), (1, .int .i64 k)]) rfl ?_
  refine cSeq (fun K1 hK1 => ?_)
  refine cRgn [] trivial ?_
  refine eBox HF rfl rfl (fun g1 w1 HF1 => ?_)
  refine eBox HF1 rfl rfl (fun g2 w2 HF2 => ?_)
  refine sL (asg rfl) rfl ?_
  refine lEnd (K := fun _ _ => True) ?_
  refine kN (?_)
  refine hK1 _ _ ?_
  refine cSeq (fun K2 hK2 => ?_)
  refine cSeq (fun K3 hK3 => ?_)
  refine cRgn [] trivial ?_
  refine sL (ld rfl Try.underlying3 rfl (HF2.box (mem_h) rfl)) rfl ?_
  refine sL (bLss rfl rfl) rfl ?_
  refine lEnd (K := fun _ _ => True) ?_
  refine kN (?_)
  refine hK3 _ _ ?_
  refine cSet (i := 6) rfl (dF (by omega)) ?_
  refine cF rfl ?_
  refine cSkip ?_
  refine kN (?_)
  refine hK2 _ _ ?_
  refine cSeq (fun K4 hK4 => ?_)
  refine cRgn [] trivial ?_
  refine sL (mfn rfl rfl) rfl ?_
  refine sL (asg rfl) rfl ?_
  refine lEnd (K := fun _ _ => True) ?_
  refine kN (?_)
  refine hK4 _ _ ?_
  refine cRet ?_
  refine ret1 rfl rfl ?_
  exact ⟨g1, g2, rfl, HF2.perm (List.Perm.swap _ _ _)⟩
set_option maxHeartbeats 1000000 in
theorem iter33 {α : Type} {A : Option Addr} {c k g1 g2 : Nat} (xs : List α) (hk : 0 < k) (hk2 : k ≤ 1000) (hc : xs.length ≤ c) (hb : xs.length ≤ 4611686018427387904) :
    IterC Try.prog 33 [.pointer (some ⟨g1, 0, none⟩), .pointer (some ⟨g2, 0, none⟩)] (fun w => w.cell? ⟨g1, 0, none⟩ = some (.slice A xs.length c) ∧ w.cell? ⟨g2, 0, none⟩ = some (.int .i64 (k : Int))) (chV A xs.length k 12) (chN xs.length k) := by
  intro lr J W hdr hok hyield h0
  refine callsIn_wide.2 ?_
  refine enter0 Try.func33 rfl Try.ntmps33 rfl (E := [(0, .func (.yield lr) #[] #[]), (1, .pointer (some ⟨g1, 0, none⟩)), (2, .pointer (some ⟨g2, 0, none⟩))]) rfl ?_
  refine cSeq (fun K1 hK1 => ?_)
  refine cRgn [] trivial ?_
  refine sL (asg rfl) rfl ?_
  refine lEnd (K := fun _ _ => True) ?_
  refine kN (?_)
  refine hK1 _ _ ?_
  have hle : chN xs.length k ≤ xs.length := chN_le (j := 0) hk
  refine cLoopB (S := Nat) (R := Unit) (y := .inl (chN xs.length k)) (s0 := 0) (cnt1 (chN xs.length k)) (fun j a w => Env 31 [(0, .func (.yield lr) #[] #[]), (1, .pointer (some ⟨g1, 0, none⟩)), (2, .pointer (some ⟨g2, 0, none⟩)), (4, .int .i64 ((j * k : Nat) : Int))] a ∧ j ≤ chN xs.length k ∧ J j w) (cnt_loop _ (chN xs.length k) 0 (by omega)) (fun a hE => ⟨hE.keep (Keep.cons rfl (Keep.cons rfl (Keep.cons rfl (Keep.cons (by simp only [Nat.zero_mul]; rfl) Keep.nil)))), Nat.zero_le _, h0⟩) ?_ ?_
  · rintro j a w1 t ⟨hE, hjc, hJ⟩ hb1 hx
    have hcell := hok _ _ hJ
    refine go_ hE ?_
    refine cSeq (fun K2 hK2 => ?_)
    refine cSeq (fun K3 hK3 => ?_)
    refine cRgn [] trivial ?_
    refine sL (mv rfl) rfl ?_
    refine sL (ld rfl Try.underlying22 rfl hcell.1) rfl ?_
    refine sL (lnS rfl Try.underlying22) rfl ?_
    refine sL (bLss rfl rfl) rfl ?_
    refine lEnd (K := fun _ _ => True) ?_
    refine kN (?_)
    refine hK3 _ _ ?_
    by_cases hj : j < chN xs.length k
    · have hjk : j * k < xs.length := (chN_lt hk).1 hj
      have ht : t = .inl (j + 1) := by
        unfold cnt1 at hb1
        rw [if_pos hj] at hb1
        exact (Option.some.inj hb1).symm
      refine cSet (i := 9) rfl (dT (by omega)) ?_
      refine cT rfl ?_
      refine cSkip ?_
      refine kN (?_)
      refine hK2 _ _ ?_
      refine cSeq (fun K4 hK4 => ?_)
      refine cBlock ?_
      refine cSeq (fun K5 hK5 => ?_)
      refine cDrawW mo_ rfl (fun w => w.cell? ⟨g1, 0, none⟩ = some (.slice A xs.length c) ∧ w.cell? ⟨g2, 0, none⟩ = some (.int .i64 (k : Int))) ?_
      have hJ2 := hdr _ _ hJ
      have hc2 := hok _ _ hJ2
      have pk : PanicOk (Exit.then K5 (Exit.inBlock 1 (Exit.then K4 (Exit.then (fun a w => ∃ s', t = .inl s' ∧ Env 31 [(0, .func (.yield lr) #[] #[]), (1, .pointer (some ⟨g1, 0, none⟩)), (2, .pointer (some ⟨g2, 0, none⟩)), (4, .int .i64 ((s' * k : Nat) : Int))] a ∧ s' ≤ chN xs.length k ∧ J s' w) (Exit.inBlock 0 (Exit.then (fun a w => ∃ s', t = .inr (.inl s') ∧ Env 31 [(0, .func (.yield lr) #[] #[]), (1, .pointer (some ⟨g1, 0, none⟩)), (2, .pointer (some ⟨g2, 0, none⟩)), (4, .int .i64 ((s' * k : Nat) : Int))] a ∧ s' ≤ chN xs.length k ∧ J s' w) (bodyPost Try.prog Try.f33 fun e W' => (∃ v, e = .returned v) ∧ J (chN xs.length k) W'))))))) := pThen (pBlock (pThen (pThen (pBlock (pThen pFn)))))
      refine hTake 0 rfl (by kernel_rfl) pk (fun w_ hS_ => ld rfl Try.underlying3 rfl hS_.2) hc2 rfl rfl ?_
      refine hTake 1 rfl (by kernel_rfl) pk (fun w_ hS_ => ld rfl Try.underlying22 rfl hS_.1) hc2 rfl rfl ?_
      refine hTake 2 rfl (by kernel_rfl) pk (fun w_ hS_ => mv rfl) hc2 rfl rfl ?_
      refine hTake 3 rfl (by kernel_rfl) pk (fun w_ hS_ => slcN (lo := ((j * k : Nat) : Int)) (hi := (xs.length : Int)) xs rfl Try.underlying22 ti32 rfl rfl hc (by omega) (by omega) (Int.le_refl _)) hc2 rfl rfl ?_
      refine hTake 4 rfl (by kernel_rfl) pk (fun w_ hS_ => lnS rfl Try.underlying22) hc2 rfl rfl ?_
      refine hTake 5 rfl (by kernel_rfl) pk (fun w_ hS_ => mn2 rfl rfl) hc2 rfl rfl ?_
      refine hTake 6 rfl (by kernel_rfl) pk (fun w_ hS_ => asg rfl) hc2 rfl rfl ?_
      refine hEnd (by kernel_rfl) ?_
      refine kN (?_)
      refine hK5 _ _ ?_
      have hlen : ((cutL xs ((j * k : Nat) : Int) (xs.length : Int)).length : Int) = (xs.length : Int) - ((j * k : Nat) : Int) := by
        rw [len_cutL (by omega) (by omega) (Int.le_refl _)]; omega
      have hmin : (if ((cutL xs ((j * k : Nat) : Int) (xs.length : Int)).length : Int) < (k : Int) then ((cutL xs ((j * k : Nat) : Int) (xs.length : Int)).length : Int) else (k : Int)) = ((min (j * k + k) xs.length : Nat) : Int) - ((j * k : Nat) : Int) := by
        rw [hlen]
        split <;> omega
      refine cSet (i := 5) (v := .int .i64 (((min (j * k + k) xs.length : Nat) : Int) - ((j * k : Nat) : Int))) rfl (by rw [hmin]) ?_
      refine cSeq (fun K6 hK6 => ?_)
      refine cRgnY ?_
      refine yL (mv rfl) rfl ?_
      refine yL (ld rfl Try.underlying22 rfl hc2.1) rfl ?_
      refine yL (mv rfl) rfl ?_
      refine yL (mv rfl) rfl ?_
      refine yL (mv rfl) rfl ?_
      have hadd : IntKind.i64.wrap (((j * k : Nat) : Int) + (((min (j * k + k) xs.length : Nat) : Int) - ((j * k : Nat) : Int))) = ((min (j * k + k) xs.length : Nat) : Int) := by
        rw [IntKind.wrap_i64]; omega
      refine yL (bAdd rfl rfl) rfl ?_
      refine ySet (i := 24) (v := .int .i64 ((min (j * k + k) xs.length : Nat) : Int)) rfl (by rw [hadd]) ?_
      refine yL (mv rfl) rfl ?_
      refine yL (mv rfl) rfl ?_
      refine yL (bAdd rfl rfl) rfl ?_
      refine ySet (i := 27) (v := .int .i64 ((min (j * k + k) xs.length : Nat) : Int)) rfl (by rw [hadd]) ?_
      refine yL (slcM (lo := ((j * k : Nat) : Int)) (hi := ((min (j * k + k) xs.length : Nat) : Int)) xs rfl Try.underlying22 ti32 rfl rfl hc (by omega) (by omega) (by omega) rfl) rfl ?_
      have hv : (.slice (cutA A (((min (j * k + k) xs.length : Nat) : Int).toNat - ((j * k : Nat) : Int).toNat) (((j * k : Nat) : Int).toNat * 12)) (cutL xs ((j * k : Nat) : Int) ((min (j * k + k) xs.length : Nat) : Int)).length (((min (j * k + k) xs.length : Nat) : Int).toNat - ((j * k : Nat) : Int).toNat) : Value) = chV A xs.length k 12 j := by
        rw [len_cutL (by omega) (by omega) (by omega)]
        simp only [Int.toNat_natCast]
        rfl
      refine yYield rfl rfl (by rw [hv]; exact hyield j _ hJ2 hj) rfl ?_
      rintro e w2 ⟨rfl, hJ3⟩
      refine ⟨_, rfl, ?_⟩
      have hc3 := hok _ _ hJ3
      refine yL (uNot rfl) rfl ?_
      refine yEnd ?_
      refine kN (?_)
      refine hK6 _ _ ?_
      refine cF rfl ?_
      refine cSkip ?_
      refine jN (kN (?_))
      refine hK4 _ _ ?_
      refine cRgn [] trivial ?_
      refine sL (mv rfl) rfl ?_
      refine sL (ld rfl Try.underlying3 rfl hc3.2) rfl ?_
      refine sL (bAdd rfl rfl) rfl ?_
      refine sL (asg rfl) rfl ?_
      refine lEnd (K := fun _ _ => True) ?_
      refine kN (?_)
      refine ofEnv (fun a hE => ⟨j + 1, ht, hE.keep (Keep.cons rfl (Keep.cons rfl (Keep.cons rfl (Keep.cons ?_ Keep.nil)))), by omega, hJ3⟩)
      have e4 : IntKind.i64.wrap (((j * k : Nat) : Int) + (k : Int)) = (((j + 1) * k : Nat) : Int) := by
        rw [Nat.succ_mul, IntKind.wrap_i64]; omega
      rw [← e4]; rfl
    · have hjk : ¬ j * k < xs.length := fun h => hj ((chN_lt hk).2 h)
      have ht : t = .inr (.inl j) := by
        unfold cnt1 at hb1
        rw [if_neg hj] at hb1
        exact (Option.some.inj hb1).symm
      refine cSet (i := 9) rfl (dF (by omega)) ?_
      refine cF rfl ?_
      refine cExit ?_
      refine kX (kX (jX (kN (?_))))
      exact ofEnv (fun a hE => ⟨j, ht, hE.keep (Keep.cons rfl (Keep.cons rfl (Keep.cons rfl (Keep.cons rfl Keep.nil)))), hjc, hJ⟩)
  · rintro s a w1 hs ⟨hE, _, hJ⟩
    obtain rfl : chN xs.length k = s := by simpa using hs
    refine go_k hE ?_
    refine end0 rfl ?_
    exact ⟨⟨_, rfl⟩, hJ⟩

/-! ### slices.Clone[[]plenum/api.Link,plenum/api.Link] (function 19) -/
abbrev f_slices_Clone_api_Link_api_Link.R := List T_api_Link
noncomputable def f_slices_Clone_api_Link_api_Link (a0 : List T_api_Link) : Option f_slices_Clone_api_Link_api_Link.R := (if (0 + a0.length) * 32 ≤ 140737488355328 then some a0 else none)
set_option maxHeartbeats 1000000 in
theorem f_slices_Clone_api_Link_api_Link.ok {z w : World} {F G : Hp} (hG : G ⊆ F) {a0 : List T_api_Link} {A_a0 : Option Addr} {c_a0 : Nat} {X_a0 : Hp} {r : f_slices_Clone_api_Link_api_Link.R} (H : f_slices_Clone_api_Link_api_Link a0 = some r) (HF : Fits z w F) (hX_a0 : X_a0 ⊆ F) (hr_a0 : RdS k_T_api_Link X_a0 A_a0 c_a0 a0) :
    Calls Try.prog 19 [.slice A_a0 a0.length c_a0].toArray w fun e w' => ∃ (A0 : Option Addr) (c0 : Nat) (L0 : Hp), e = .returned (.slice A0 r.length c0) ∧ Fits z w' (L0 ++ F) ∧ OwnS k_T_api_Link L0 A0 c0 r := by
  unfold f_slices_Clone_api_Link_api_Link at H
  refine enter0 Try.func19 rfl Try.ntmps19 rfl (E := [(0, .slice A_a0 a0.length c_a0)]) rfl ?_
  refine cSeq (fun K1 hK1 => ?_)
  refine cRgn [] trivial ?_
  refine sL (asg rfl) rfl ?_
  refine lEnd (K := fun _ _ => True) ?_
  refine kN (?_)
  refine hK1 _ _ ?_
  refine cSeq (fun K2 hK2 => ?_)
  refine cSeq (fun K3 hK3 => ?_)
  refine cRgn [] trivial ?_
  refine sL (mv rfl) rfl ?_
  refine sL (bSlEql rfl rfl Try.underlying28) rfl ?_
  refine lEnd (K := fun _ _ => True) ?_
  refine kN (?_)
  refine hK3 _ _ ?_
  rcases hr_a0.nilq with ⟨rfl, e1⟩ | ⟨h1, h2⟩
  · subst e1
    replace H : (some [] : Option f_slices_Clone_api_Link_api_Link.R) = some r := by simpa using H
    refine cSet (i := 4) (v := .bool true) rfl rfl ?_
    refine cT rfl ?_
    refine cSeq (fun K4 hK4 => ?_)
    refine cRgn [] trivial ?_
    refine sL (asg rfl) rfl ?_
    refine lEnd (K := fun _ _ => True) ?_
    refine kN (?_)
    refine hK4 _ _ ?_
    refine cRet ?_
    obtain rfl := Option.some.inj H
    refine kR (?_)
    refine ret1 rfl rfl ?_
    exact ⟨none, 0, [], rfl, HF, OwnS.nil⟩
  · refine cSet (i := 4) rfl (nilF h1) ?_
    refine cF rfl ?_
    refine cSkip ?_
    refine kN (?_)
    refine hK2 _ _ ?_
    refine cSeq (fun K5 hK5 => ?_)
    refine cRgn [] trivial ?_
    refine eW (oLit (r := []) k_T_api_Link ([] : List T_api_Link) HF Try.underlying28 ti57 rfl rfl rfl rfl ⟨rfl, rfl⟩ rfl rfl) rfl ?_
    rintro _ w1 ⟨L1, A1, c1, rfl, HF1, ho1⟩
    refine sL (mv rfl) rfl ?_
    replace H := chk H; obtain ⟨c2, H⟩ := H
    refine eW (oApp (xs := ([] : List T_api_Link)) (ys := a0) k_T_api_Link HF1 rfl rfl Try.underlying28 Try.underlying28 ti57 rfl ho1 (srcR shrF hr_a0 HF1 (sub_a hX_a0)) c2 rfl) rfl ?_
    rintro _ w2 ⟨L2, A2, c3, rfl, HF2, ho2⟩
    refine sL (asg rfl) rfl ?_
    refine lEnd (K := fun _ _ => True) ?_
    refine kN (?_)
    refine hK5 _ _ ?_
    refine cRet ?_
    obtain rfl := Option.some.inj H
    refine ret1 rfl rfl ?_
    exact ⟨_, _, L2, rfl, HF2, ho2⟩
/-! ### slices.Clone[[]int,int] (function 20) -/
abbrev f_slices_Clone_int_int.R := List Int
noncomputable def f_slices_Clone_int_int (a0 : List Int) : Option f_slices_Clone_int_int.R := (if (0 + a0.length) * 8 ≤ 140737488355328 then some a0 else none)
set_option maxHeartbeats 1000000 in
theorem f_slices_Clone_int_int.ok {z w : World} {F G : Hp} (hG : G ⊆ F) {a0 : List Int} {A_a0 : Option Addr} {c_a0 : Nat} {X_a0 : Hp} {r : f_slices_Clone_int_int.R} (H : f_slices_Clone_int_int a0 = some r) (HF : Fits z w F) (hX_a0 : X_a0 ⊆ F) (hr_a0 : RdS (kInt .i64) X_a0 A_a0 c_a0 a0) :
    Calls Try.prog 20 [.slice A_a0 a0.length c_a0].toArray w fun e w' => ∃ (A0 : Option Addr) (c0 : Nat) (L0 : Hp), e = .returned (.slice A0 r.length c0) ∧ Fits z w' (L0 ++ F) ∧ OwnS (kInt .i64) L0 A0 c0 r := by
  unfold f_slices_Clone_int_int at H
  refine enter0 Try.func20 rfl Try.ntmps20 rfl (E := [(0, .slice A_a0 a0.length c_a0)]) rfl ?_
  refine cSeq (fun K1 hK1 => ?_)
  refine cRgn [] trivial ?_
  refine sL (asg rfl) rfl ?_
  refine lEnd (K := fun _ _ => True) ?_
  refine kN (?_)
  refine hK1 _ _ ?_
  refine cSeq (fun K2 hK2 => ?_)
  refine cSeq (fun K3 hK3 => ?_)
  refine cRgn [] trivial ?_
  refine sL (mv rfl) rfl ?_
  refine sL (bSlEql rfl rfl Try.underlying29) rfl ?_
  refine lEnd (K := fun _ _ => True) ?_
  refine kN (?_)
  refine hK3 _ _ ?_
  rcases hr_a0.nilq with ⟨rfl, e1⟩ | ⟨h1, h2⟩
  · subst e1
    replace H : (some [] : Option f_slices_Clone_int_int.R) = some r := by simpa using H
    refine cSet (i := 4) (v := .bool true) rfl rfl ?_
    refine cT rfl ?_
    refine cSeq (fun K4 hK4 => ?_)
    refine cRgn [] trivial ?_
    refine sL (asg rfl) rfl ?_
    refine lEnd (K := fun _ _ => True) ?_
    refine kN (?_)
    refine hK4 _ _ ?_
    refine cRet ?_
    obtain rfl := Option.some.inj H
    refine kR (?_)
    refine ret1 rfl rfl ?_
    exact ⟨none, 0, [], rfl, HF, OwnS.nil⟩
  · refine cSet (i := 4) rfl (nilF h1) ?_
    refine cF rfl ?_
    refine cSkip ?_
    refine kN (?_)
    refine hK2 _ _ ?_
    refine cSeq (fun K5 hK5 => ?_)
    refine cRgn [] trivial ?_
    refine eW (oLit (r := []) (kInt .i64) ([] : List Int) HF Try.underlying29 ti3 rfl rfl rfl rfl ⟨rfl, rfl⟩ rfl rfl) rfl ?_
    rintro _ w1 ⟨L1, A1, c1, rfl, HF1, ho1⟩
    refine sL (mv rfl) rfl ?_
    replace H := chk H; obtain ⟨c2, H⟩ := H
    refine eW (oApp (xs := ([] : List Int)) (ys := a0) (kInt .i64) HF1 rfl rfl Try.underlying29 Try.underlying29 ti3 rfl ho1 (srcR shrF hr_a0 HF1 (sub_a hX_a0)) c2 rfl) rfl ?_
    rintro _ w2 ⟨L2, A2, c3, rfl, HF2, ho2⟩
    refine sL (asg rfl) rfl ?_
    refine lEnd (K := fun _ _ => True) ?_
    refine kN (?_)
    refine hK5 _ _ ?_
    refine cRet ?_
    obtain rfl := Option.some.inj H
    refine ret1 rfl rfl ?_
    exact ⟨_, _, L2, rfl, HF2, ho2⟩
/-! ### slices.Clone[[]plenum/api.Vert,plenum/api.Vert] (function 21) -/
abbrev f_slices_Clone_api_Vert_api_Vert.R := List T_api_Vert
noncomputable def f_slices_Clone_api_Vert_api_Vert (a0 : List T_api_Vert) : Option f_slices_Clone_api_Vert_api_Vert.R := (if (0 + a0.length) * 16 ≤ 140737488355328 then some a0 else none)
set_option maxHeartbeats 1000000 in
theorem f_slices_Clone_api_Vert_api_Vert.ok {z w : World} {F G : Hp} (hG : G ⊆ F) {a0 : List T_api_Vert} {A_a0 : Option Addr} {c_a0 : Nat} {X_a0 : Hp} {r : f_slices_Clone_api_Vert_api_Vert.R} (H : f_slices_Clone_api_Vert_api_Vert a0 = some r) (HF : Fits z w F) (hX_a0 : X_a0 ⊆ F) (hr_a0 : RdS k_T_api_Vert X_a0 A_a0 c_a0 a0) :
    Calls Try.prog 21 [.slice A_a0 a0.length c_a0].toArray w fun e w' => ∃ (A0 : Option Addr) (c0 : Nat) (L0 : Hp), e = .returned (.slice A0 r.length c0) ∧ Fits z w' (L0 ++ F) ∧ OwnS k_T_api_Vert L0 A0 c0 r := by
  unfold f_slices_Clone_api_Vert_api_Vert at H
  refine enter0 Try.func21 rfl Try.ntmps21 rfl (E := [(0, .slice A_a0 a0.length c_a0)]) rfl ?_
  refine cSeq (fun K1 hK1 => ?_)
  refine cRgn [] trivial ?_
  refine sL (asg rfl) rfl ?_
  refine lEnd (K := fun _ _ => True) ?_
  refine kN (?_)
  refine hK1 _ _ ?_
  refine cSeq (fun K2 hK2 => ?_)
  refine cSeq (fun K3 hK3 => ?_)
  refine cRgn [] trivial ?_
  refine sL (mv rfl) rfl ?_
  refine sL (bSlEql rfl rfl Try.underlying30) rfl ?_
  refine lEnd (K := fun _ _ => True) ?_
  refine kN (?_)
  refine hK3 _ _ ?_
  rcases hr_a0.nilq with ⟨rfl, e1⟩ | ⟨h1, h2⟩
  · subst e1
    replace H : (some [] : Option f_slices_Clone_api_Vert_api_Vert.R) = some r := by simpa using H
    refine cSet (i := 4) (v := .bool true) rfl rfl ?_
    refine cT rfl ?_
    refine cSeq (fun K4 hK4 => ?_)
    refine cRgn [] trivial ?_
    refine sL (asg rfl) rfl ?_
    refine lEnd (K := fun _ _ => True) ?_
    refine kN (?_)
    refine hK4 _ _ ?_
    refine cRet ?_
    obtain rfl := Option.some.inj H
    refine kR (?_)
    refine ret1 rfl rfl ?_
    exact ⟨none, 0, [], rfl, HF, OwnS.nil⟩
  · refine cSet (i := 4) rfl (nilF h1) ?_
    refine cF rfl ?_
    refine cSkip ?_
    refine kN (?_)
    refine hK2 _ _ ?_
    refine cSeq (fun K5 hK5 => ?_)
    refine cRgn [] trivial ?_
    refine eW (oLit (r := []) k_T_api_Vert ([] : List T_api_Vert) HF Try.underlying30 ti61 rfl rfl rfl rfl ⟨rfl, rfl⟩ rfl rfl) rfl ?_
    rintro _ w1 ⟨L1, A1, c1, rfl, HF1, ho1⟩
    refine sL (mv rfl) rfl ?_
    replace H := chk H; obtain ⟨c2, H⟩ := H
    refine eW (oApp (xs := ([] : List T_api_Vert)) (ys := a0) k_T_api_Vert HF1 rfl rfl Try.underlying30 Try.underlying30 ti61 rfl ho1 (srcR shrF hr_a0 HF1 (sub_a hX_a0)) c2 rfl) rfl ?_
    rintro _ w2 ⟨L2, A2, c3, rfl, HF2, ho2⟩
    refine sL (asg rfl) rfl ?_
    refine lEnd (K := fun _ _ => True) ?_
    refine kN (?_)
    refine hK5 _ _ ?_
    refine cRet ?_
    obtain rfl := Option.some.inj H
    refine ret1 rfl rfl ?_
    exact ⟨_, _, L2, rfl, HF2, ho2⟩
/-! ### plenum/answer.Updates (function 7) -/
abbrev f_answer_Updates.R := List T_api_Packet
noncomputable def f_answer_Updates.b0 (xc1 : List T_api_Lsa) (s4 : Int × (List T_api_Lsa)) : Option (Sum (Int × (List T_api_Lsa)) (Sum (Int × (List T_api_Lsa)) f_answer_Updates.R)) := (if s4.1 < (xc1.length : Int) then (if 0 ≤ s4.1 then ((f_slices_Clone_api_Link_api_Link ((rd xc1 s4.1).f_Links)).bind fun t52 => ((f_slices_Clone_int_int ((rd xc1 s4.1).f_Routers)).bind fun t53 => ((f_slices_Clone_api_Vert_api_Vert ((rd xc1 s4.1).f_Verts)).bind fun t54 => (if (s4.2.length + 1) * 144 ≤ 140737488355328 then some (.inl (IntKind.i64.wrap (s4.1 + 1), (s4.2 ++ [(⟨(⟨(rd xc1 s4.1).f_Head.f_Age, (rd xc1 s4.1).f_Head.f_Kind, (rd xc1 s4.1).f_Head.f_Id, (rd xc1 s4.1).f_Head.f_Adv, (rd xc1 s4.1).f_Head.f_Seq, (rd xc1 s4.1).f_Head.f_Sum, (rd xc1 s4.1).f_Head.f_Len⟩ : T_api_Head), (rd xc1 s4.1).f_Flags, t52, (rd xc1 s4.1).f_Bits, t53, t54⟩ : T_api_Lsa)]))) else none)))) else none) else some (.inr (.inl (s4.1, s4.2))))
noncomputable def f_answer_Updates.b1 (a0 : Int) (xc1 : List T_api_Lsa) (s3 : (List T_api_Packet)) : Option ((List T_api_Packet)) := ((loopO (f_answer_Updates.b0 xc1) (0, [])).bind fun y6 => match y6 with | .inl s4 => (if (s3.length + 1) * 160 ≤ 140737488355328 then some (s3 ++ [(⟨4, a0, 0, 0, 0, 0, [], 0, 0, [], [], s4.2⟩ : T_api_Packet)]) else none) | .inr r_ => some r_)
noncomputable def f_answer_Updates (a0 : Int) (a1 : List T_api_Lsa) : Option f_answer_Updates.R := (if a1.length ≤ 4611686018427387904 then ((foldO (f_answer_Updates.b1 a0) (chL 4 a1) []).bind fun s3 => some s3) else none)
set_option maxHeartbeats 1000000 in
theorem f_answer_Updates.ok {z w : World} {F G : Hp} (hG : G ⊆ F) {a0 : Int} {a1 : List T_api_Lsa} {A_a1 : Option Addr} {c_a1 : Nat} {X_a1 : Hp} {r : f_answer_Updates.R} (H : f_answer_Updates a0 a1 = some r) (HF : Fits z w F) (hX_a1 : X_a1 ⊆ F) (hr_a1 : RdS (kShr G k_T_api_Lsa) X_a1 A_a1 c_a1 a1) :
    Calls Try.prog 7 [.int .i64 a0, .slice A_a1 a1.length c_a1].toArray w fun e w' => ∃ (N : Hp) (A0 : Option Addr) (c0 : Nat) (L0 : Hp), e = .returned (.slice A0 r.length c0) ∧ Fits z w' (L0 ++ (N ++ F)) ∧ OwnS (kShr (N ++ G) k_T_api_Packet) L0 A0 c0 r := by
  unfold f_answer_Updates at H
  refine enterM Try.func7 rfl Try.ntmps7 rfl (E := [(0, .int .i64 a0), (1, .slice A_a1 a1.length c_a1)]) rfl ?_
  refine cSeq (fun K1 hK1 => ?_)
  refine cRgn [] trivial ?_
  refine eW (oBox HF rfl) rfl ?_
  rintro _ w1 ⟨g1, rfl, HF1⟩
  refine sL (asg rfl) rfl ?_
  refine lEnd (K := fun _ _ => True) ?_
  refine kN (?_)
  refine hK1 _ _ ?_
  refine cSeq (fun K2 hK2 => ?_)
  refine cRgn [] trivial ?_
  refine eW (oAlloc HF1 ti33) rfl ?_
  rintro _ w2 ⟨g2, rfl, HF2⟩
  refine lEnd (K := fun _ _ => True) ?_
  refine kN (?_)
  refine hK2 _ _ ?_
  refine cSeqA (fun K3 hK3 => ?_)
  refine cRgn [] trivial ?_
  refine sL (mv rfl) rfl ?_
  refine eCall isf18 rfl rfl rfl (chunk18.ok (by decide) HF2) ?_
  rintro _ w3 ⟨g3, g4, rfl, HF3⟩
  refine ⟨_, rfl, ?_⟩
  refine lEnd (K := fun _ _ => True) ?_
  refine kN (?_)
  refine hK3 _ _ ?_
  replace H := chk H; obtain ⟨c1, H⟩ := H
  replace H := bnd H; obtain ⟨s3, J59, Ho4⟩ := H
  refine cRangeS (fun (M_ : Hp) (s3 : (List T_api_Packet)) (w : World) => ∃ (D6 : Hp) (A77 : Option Addr) (c93 : Nat) (L58 : Hp), Fits z w (M_ ++ (L58 ++ (bk g3 22 [.slice A_a1 a1.length c_a1] :: (bk g4 3 [.int .i64 4] :: (bk g2 33 [.slice A77 s3.length c93] :: (bk g1 3 [.int .i64 a0] :: (D6 ++ F))))))) ∧ OwnS (kShr (D6 ++ G) k_T_api_Packet) L58 A77 c93 s3) J59 HF3 rfl isf33 rfl rfl (iter33 a1 (by decide) (by decide) hr_a1.1 c1) hr_a1 (by decide) rfl (fun M_ w_ HF426 => ⟨[], none, 0, [], HF426, OwnS.nil⟩) ?_ ?_ ?_ ?_ ?_
  · rintro M_ M2_ s3 w_ w2_ ⟨D6, A77, c93, L58, HF429, ho58⟩ hM_
    exact ⟨D6, A77, c93, L58, (hM_ _ HF429), ho58⟩
  · rintro M_ s3 w_ ⟨D6, A77, c93, L58, HF429, ho58⟩
    exact ⟨_, HF429⟩
  · rintro M_ s3 w_ ⟨D6, A77, c93, L58, HF429, ho58⟩
    exact ⟨HF429.box (mem_a (mem_a mem_h)) rfl, HF429.box (mem_a (mem_a (mem_c mem_h))) rfl⟩
  · rintro lr_ M_ s3 s2_ w187 xc1 A1 c2 hr1 ⟨D6, A77, c93, L58, HF271, ho58⟩ H
    have hs28 : G ⊆ D6 ++ G := sub_a sub_r
    refine rBlock ?_
    refine rSeq (fun K40 hK40 => ?_)
    refine rRgn [] trivial rfl ?_
    refine sL (ld rfl Try.underlying3 rfl (HF271.box (mem_a (mem_a (mem_c (mem_c (mem_c mem_h))))) rfl)) rfl ?_
    refine sL (bd (r := [.int .i64 4, .int .i64 a0, .int .i64 0, .int .i64 0, .int .i64 0, .int .i64 0, .slice none 0 0, .int .i64 0, .int .i64 0, .slice none 0 0, .slice none 0 0, .slice none 0 0]) pl38 ti38 rfl rfl) rfl ?_
    refine eW (oAlloc HF271 ti38) rfl ?_
    rintro _ w126 ⟨g19, rfl, HF272⟩
    refine eS (oSt (l1 := [.int .i64 4, .int .i64 a0, .int .i64 0, .int .i64 0, .int .i64 0, .int .i64 0, .slice none 0 0, .int .i64 0, .int .i64 0, .slice none 0 0, .slice none 0 0, .slice none 0 0]) HF272 rfl rfl ti38 rfl (ones rfl) (Nat.le_of_ble_eq_true rfl) rfl) ?_
    rintro w127 HF273
    refine lEnd (K := fun _ _ => True) ?_
    refine kN (?_)
    refine hK40 _ _ ?_
    refine rSeq (fun K41 hK41 => ?_)
    refine rSeq (fun K42 hK42 => ?_)
    refine rRgn [] trivial rfl ?_
    refine sL (mv rfl) rfl ?_
    refine sL (lnS rfl Try.underlying22) rfl ?_
    refine sL (mv rfl) rfl ?_
    refine lEnd (K := fun _ _ => True) ?_
    refine kN (?_)
    refine hK42 _ _ ?_
    replace H := bnd H; obtain ⟨y6, J58, Ho3⟩ := H
    refine rLoopB (f_answer_Updates.b0 xc1) (fun (s4 : Int × (List T_api_Lsa)) a w => ∃ (D8 : Hp) (A101 : Option Addr) (c121 : Nat) (L76 : Hp), Env 45 [(2, .pointer (some ⟨g1, 0, none⟩)), (4, .slice none 0 0), (5, .pointer (some ⟨g2, 0, none⟩)), (7, .pointer (some ⟨g19, 0, none⟩)), (11, .func (.func 33) [].toArray [.pointer (some ⟨g3, 0, none⟩), .pointer (some ⟨g4, 0, none⟩)].toArray), (15, .slice A1 xc1.length c2), (16, .int .i64 (xc1.length : Int)), (17, .int .i64 s4.1)] a ∧ Fits z w (L76 ++ (bk g19 38 [.int .i64 4, .int .i64 a0, .int .i64 0, .int .i64 0, .int .i64 0, .int .i64 0, .slice none 0 0, .int .i64 0, .int .i64 0, .slice none 0 0, .slice none 0 0, .slice A101 s4.2.length c121] :: (M_ ++ (L58 ++ (bk g3 22 [.slice A_a1 a1.length c_a1] :: (bk g4 3 [.int .i64 4] :: (bk g2 33 [.slice A77 s3.length c93] :: (bk g1 3 [.int .i64 a0] :: (D8 ++ (D6 ++ F)))))))))) ∧ OwnS (kShr (D8 ++ (D6 ++ G)) k_T_api_Lsa) L76 A101 c121 s4.2) J58 (fun a hE => ⟨[], none, 0, [], hE.keep (Keep.cons rfl (Keep.cons rfl (Keep.cons rfl (Keep.cons rfl (Keep.cons rfl (Keep.cons rfl (Keep.cons rfl (Keep.cons rfl (Keep.nil))))))))), HF273, OwnS.nil⟩) ?_ ?_
    · rintro s4 a w164 y7 ⟨D8, A101, c121, L76, hE, HF356, ho76⟩ H Hx3
      refine rgo_ hE ?_
      obtain ⟨N30, hN30⟩ : ∃ N_, N_ = D8 ++ D6 := ⟨_, rfl⟩
      have HF357 := HF356; rw [← List.append_assoc D8 D6 F, ← hN30] at HF357
      have hs36 : D6 ++ G ⊆ N30 ++ G := frz_s hN30
      have hr30 := OwnS.lift (G' := (N30 ++ G)) ho76 (frz_c hN30)
      refine rSeq (fun K53 hK53 => ?_)
      refine rRgn [] trivial rfl ?_
      refine sL (bLss rfl rfl) rfl ?_
      refine lEnd (K := fun _ _ => True) ?_
      refine kN (?_)
      refine hK53 _ _ ?_
      refine rSeq (fun K54 hK54 => ?_)
      by_cases c122 : s4.1 < (xc1.length : Int)
      · replace H := itT c122 H
        refine rSet (i := 18) rfl (dT c122) ?_
        refine rT rfl ?_
        refine rSkip ?_
        refine kN (?_)
        refine hK54 _ _ ?_
        refine rSeq (fun K55 hK55 => ?_)
        refine rBlock ?_
        refine rSeq (fun K56 hK56 => ?_)
        refine rRgn [] trivial rfl ?_
        replace H := chk H; obtain ⟨c123, H⟩ := H
        obtain ⟨g24, o9, e18, rfl, hk9, q9⟩ := RdS.at_ hr1 c123 c122
        obtain ⟨A102, c124, A103, c125, A104, c126, rfl, hr31, hr32, hr33⟩ := rd_T_api_Lsa hk9
        refine sL (ia rfl rfl Try.underlying22 ti32 c123 c122) rfl ?_
        refine sL (ldA rfl ti32 rfl rfl (fun j v hj => HF357.cells ((sub_a (sub_c (sub_a (sub_a (sub_c (sub_c (sub_c (sub_c (sub_a hX_a1)))))))))) (q9 j v hj))) rfl ?_
        refine eW (oAlloc HF357 ti32) rfl ?_
        rintro _ w165 ⟨g25, rfl, HF358⟩
        refine eS (oSt (l1 := [.int .i64 ((rd xc1 s4.1).f_Head.f_Age), .int .i64 ((rd xc1 s4.1).f_Head.f_Kind), .int .i64 ((rd xc1 s4.1).f_Head.f_Id), .int .i64 ((rd xc1 s4.1).f_Head.f_Adv), .int .i64 ((rd xc1 s4.1).f_Head.f_Seq), .int .i64 ((rd xc1 s4.1).f_Head.f_Sum), .int .i64 ((rd xc1 s4.1).f_Head.f_Len), .int .i64 ((rd xc1 s4.1).f_Flags), .slice A102 ((rd xc1 s4.1).f_Links).length c124, .int .i64 ((rd xc1 s4.1).f_Bits), .slice A103 ((rd xc1 s4.1).f_Routers).length c125, .slice A104 ((rd xc1 s4.1).f_Verts).length c126]) HF358 rfl rfl ti32 rfl (ones rfl) (Nat.le_of_ble_eq_true rfl) rfl) ?_
        rintro w166 HF359
        refine lEnd (K := fun _ _ => True) ?_
        refine kN (?_)
        refine hK56 _ _ ?_
        refine rSeq (fun K57 hK57 => ?_)
        refine rDraw mo_ HF359 rfl rfl (fun w => Fits z w (L76 ++ (bk g19 38 [.int .i64 4, .int .i64 a0, .int .i64 0, .int .i64 0, .int .i64 0, .int .i64 0, .slice none 0 0, .int .i64 0, .int .i64 0, .slice none 0 0, .slice none 0 0, .slice A101 s4.2.length c121] :: (M_ ++ (L58 ++ (bk g3 22 [.slice A_a1 a1.length c_a1] :: (bk g4 3 [.int .i64 4] :: (bk g2 33 [.slice A77 s3.length c93] :: (bk g1 3 [.int .i64 a0] :: (N30 ++ F)))))))))) (fun w173 HF373 => ?_)
        have HF374 := HF373.sublist (sl_dc (sl_a (sl_c (sl_a (sl_a (sl_c (sl_c (sl_c (sl_c (List.Sublist.refl _))))))))))
        refine hTake 0 rfl (by kernel_rfl) (pThen (pBlock (pThen (pThen (pBlock (pThen (pThen (pBlock (pThen pNo))))))))) (fun w_ hS_ => fa32_2 rfl) HF374 rfl rfl ?_
        refine hTake 3 rfl (by kernel_rfl) (pThen (pBlock (pThen (pThen (pBlock (pThen (pThen (pBlock (pThen pNo))))))))) (fun w_ hS_ => fa32_4 rfl) HF374 rfl rfl ?_
        refine hTake 6 rfl (by kernel_rfl) (pThen (pBlock (pThen (pThen (pBlock (pThen (pThen (pBlock (pThen pNo))))))))) (fun w_ hS_ => fa32_5 rfl) HF374 rfl rfl ?_
        refine h3 1 4 7 (by kernel_rfl) rfl rfl rfl ?_ ?_ ?_
        · refine qL rfl gd0 (ld rfl Try.underlying28 rfl (HF373.box (mem_h) rfl)) rfl HF374 ?_
          refine h3 2 4 7 (by kernel_rfl) rfl rfl rfl ?_ ?_ ?_
          · replace H := bnd H; obtain ⟨t52, J55, H⟩ := H
            refine qCall rfl gd0 isf19 rfl rfl rfl (f_slices_Clone_api_Link_api_Link.ok (a0 := (rd xc1 s4.1).f_Links) (sub_c (sub_a (sub_c (sub_a (sub_a (sub_c (sub_c (sub_c (sub_c (sub_n hG)))))))))) J55 HF373 (sub_c (sub_a (sub_c (sub_a (sub_a (sub_c (sub_c (sub_c (sub_c (sub_t (sub_t hs28 hs36) (sub_n hG))))))))))) hr31) ?_
            rintro _ w174 ⟨A108, c130, L80, rfl, HF375, ho80⟩
            have HF376 := HF375.sublist (sl_da (sl_dc (sl_a (sl_c (sl_a (sl_a (sl_c (sl_c (sl_c (sl_c (List.Sublist.refl _)))))))))))
            refine ⟨_, rfl, HF376, ?_⟩
            refine h2 4 7 (by kernel_rfl) rfl rfl ?_ ?_
            · refine qL rfl gd0 (ld rfl Try.underlying29 rfl (HF375.box (mem_a mem_h) rfl)) rfl HF376 ?_
              refine h2 5 7 (by kernel_rfl) rfl rfl ?_ ?_
              · replace H := bnd H; obtain ⟨t53, J56, H⟩ := H
                refine qCall rfl gd0 isf20 rfl rfl rfl (f_slices_Clone_int_int.ok (a0 := (rd xc1 s4.1).f_Routers) (sub_a (sub_c (sub_a (sub_c (sub_a (sub_a (sub_c (sub_c (sub_c (sub_c (sub_n hG))))))))))) J56 HF375 (sub_a (sub_c (sub_a (sub_c (sub_a (sub_a (sub_c (sub_c (sub_c (sub_c (sub_t (sub_t hs28 hs36) (sub_n hG)))))))))))) hr32) ?_
                rintro _ w175 ⟨A109, c131, L81, rfl, HF377, ho81⟩
                have HF378 := HF377.sublist (sl_da (sl_da (sl_dc (sl_a (sl_c (sl_a (sl_a (sl_c (sl_c (sl_c (sl_c (List.Sublist.refl _))))))))))))
                refine ⟨_, rfl, HF378, ?_⟩
                refine h1 7 (by kernel_rfl) rfl ?_
                refine qL rfl gd0 (ld rfl Try.underlying30 rfl (HF377.box (mem_a (mem_a mem_h)) rfl)) rfl HF378 ?_
                refine hTake 9 rfl (by kernel_rfl) (pThen (pBlock (pThen (pThen (pBlock (pThen (pThen (pBlock (pThen pNo))))))))) (fun w_ hS_ => fa32_2 rfl) HF378 rfl rfl ?_
                refine h1 8 (by kernel_rfl) rfl ?_
                replace H := bnd H; obtain ⟨t54, J57, H⟩ := H
                refine qCall rfl gd0 isf21 rfl rfl rfl (f_slices_Clone_api_Vert_api_Vert.ok (a0 := (rd xc1 s4.1).f_Verts) (sub_a (sub_a (sub_c (sub_a (sub_c (sub_a (sub_a (sub_c (sub_c (sub_c (sub_c (sub_n hG)))))))))))) J57 HF377 (sub_a (sub_a (sub_c (sub_a (sub_c (sub_a (sub_a (sub_c (sub_c (sub_c (sub_c (sub_t (sub_t hs28 hs36) (sub_n hG))))))))))))) hr33) ?_
                rintro _ w176 ⟨A110, c132, L82, rfl, HF379, ho82⟩
                have HF380 := HF379.sublist (sl_da (sl_da (sl_da (sl_dc (sl_a (sl_c (sl_a (sl_a (sl_c (sl_c (sl_c (sl_c (List.Sublist.refl _)))))))))))))
                refine ⟨_, rfl, HF380, ?_⟩
                refine h1 10 (by kernel_rfl) rfl ?_
                have HF381 := HF379.perm (perm_f1 (perm_f1 (perm_f1 (List.Perm.refl _))))
                refine qS rfl gd0 (oSt1 (l1 := [.int .i64 ((rd xc1 s4.1).f_Head.f_Age), .int .i64 ((rd xc1 s4.1).f_Head.f_Kind), .int .i64 ((rd xc1 s4.1).f_Head.f_Id), .int .i64 ((rd xc1 s4.1).f_Head.f_Adv), .int .i64 ((rd xc1 s4.1).f_Head.f_Seq), .int .i64 ((rd xc1 s4.1).f_Head.f_Sum), .int .i64 ((rd xc1 s4.1).f_Head.f_Len), .int .i64 ((rd xc1 s4.1).f_Flags), .slice A108 t52.length c130, .int .i64 ((rd xc1 s4.1).f_Bits), .slice A103 ((rd xc1 s4.1).f_Routers).length c125, .slice A104 ((rd xc1 s4.1).f_Verts).length c126]) HF381 rfl rfl ti28 rfl rfl rfl) ?_
                rintro w177 HF382
                have HF383 := HF382.sublist (sl_dc (sl_da (sl_da (sl_da (sl_a (sl_c (sl_a (sl_a (sl_c (sl_c (sl_c (sl_c (List.Sublist.refl _)))))))))))))
                refine ⟨HF383, ?_⟩
                refine hTake 11 rfl (by kernel_rfl) (pThen (pBlock (pThen (pThen (pBlock (pThen (pThen (pBlock (pThen pNo))))))))) (fun w_ hS_ => fa32_4 rfl) HF383 rfl rfl ?_
                refine h1 12 (by kernel_rfl) rfl ?_
                refine qS rfl gd0 (oSt1 (l1 := [.int .i64 ((rd xc1 s4.1).f_Head.f_Age), .int .i64 ((rd xc1 s4.1).f_Head.f_Kind), .int .i64 ((rd xc1 s4.1).f_Head.f_Id), .int .i64 ((rd xc1 s4.1).f_Head.f_Adv), .int .i64 ((rd xc1 s4.1).f_Head.f_Seq), .int .i64 ((rd xc1 s4.1).f_Head.f_Sum), .int .i64 ((rd xc1 s4.1).f_Head.f_Len), .int .i64 ((rd xc1 s4.1).f_Flags), .slice A108 t52.length c130, .int .i64 ((rd xc1 s4.1).f_Bits), .slice A109 t53.length c131, .slice A104 ((rd xc1 s4.1).f_Verts).length c126]) HF382 rfl rfl ti29 rfl rfl rfl) ?_
                rintro w178 HF384
                have HF385 := HF384.sublist (sl_dc (sl_da (sl_da (sl_da (sl_a (sl_c (sl_a (sl_a (sl_c (sl_c (sl_c (sl_c (List.Sublist.refl _)))))))))))))
                refine ⟨HF385, ?_⟩
                refine hTake 13 rfl (by kernel_rfl) (pThen (pBlock (pThen (pThen (pBlock (pThen (pThen (pBlock (pThen pNo))))))))) (fun w_ hS_ => fa32_5 rfl) HF385 rfl rfl ?_
                refine h1 14 (by kernel_rfl) rfl ?_
                refine qS rfl gd0 (oSt1 (l1 := [.int .i64 ((rd xc1 s4.1).f_Head.f_Age), .int .i64 ((rd xc1 s4.1).f_Head.f_Kind), .int .i64 ((rd xc1 s4.1).f_Head.f_Id), .int .i64 ((rd xc1 s4.1).f_Head.f_Adv), .int .i64 ((rd xc1 s4.1).f_Head.f_Seq), .int .i64 ((rd xc1 s4.1).f_Head.f_Sum), .int .i64 ((rd xc1 s4.1).f_Head.f_Len), .int .i64 ((rd xc1 s4.1).f_Flags), .slice A108 t52.length c130, .int .i64 ((rd xc1 s4.1).f_Bits), .slice A109 t53.length c131, .slice A110 t54.length c132]) HF384 rfl rfl ti30 rfl rfl rfl) ?_
                rintro w179 HF386
                have HF387 := HF386.sublist (sl_dc (sl_da (sl_da (sl_da (sl_a (sl_c (sl_a (sl_a (sl_c (sl_c (sl_c (sl_c (List.Sublist.refl _)))))))))))))
                refine ⟨HF387, ?_⟩
                refine hEnd (by kernel_rfl) ?_
                refine kN (?_)
                refine hK57 _ _ ?_
                refine rRgn [] trivial rfl ?_
                refine sL (fa38_11 rfl) rfl ?_
                refine sL (ld rfl Try.underlying22 rfl (HF386.box (mem_c (mem_a (mem_a (mem_a (mem_a mem_h))))) rfl)) rfl ?_
                refine sL (ldA (cs := [.int .i64 ((rd xc1 s4.1).f_Head.f_Age), .int .i64 ((rd xc1 s4.1).f_Head.f_Kind), .int .i64 ((rd xc1 s4.1).f_Head.f_Id), .int .i64 ((rd xc1 s4.1).f_Head.f_Adv), .int .i64 ((rd xc1 s4.1).f_Head.f_Seq), .int .i64 ((rd xc1 s4.1).f_Head.f_Sum), .int .i64 ((rd xc1 s4.1).f_Head.f_Len), .int .i64 ((rd xc1 s4.1).f_Flags), .slice A108 t52.length c130, .int .i64 ((rd xc1 s4.1).f_Bits), .slice A109 t53.length c131, .slice A110 t54.length c132]) rfl ti32 rfl rfl (HF386.boxes (o := 0) (n := 12) (mem_h) rfl)) rfl ?_
                have HF388 := HF386.perm (pm_c (pm_a (pm_a (perm_f (perm_c (perm_f (perm_f (perm_c (perm_c (perm_c (perm_c (List.Perm.refl _))))))))).symm)))
                obtain ⟨N31, hN31⟩ : ∃ N_, N_ = L80 ++ N30 := ⟨_, rfl⟩
                have HF389 := HF388; rw [← List.append_assoc L80 N30 F, ← hN31] at HF389
                have hs37 : N30 ++ G ⊆ N31 ++ G := frz_s hN31
                have hz27 : RdS k_T_api_Link (N31 ++ G) A108 c130 t52 := RdS.mono ho80.rd (frz_l hN31)
                have HF390 := HF389.perm (pm_c (pm_a (perm_f (perm_c (perm_f (perm_f (perm_c (perm_c (perm_c (perm_c (List.Perm.refl _))))))))).symm))
                obtain ⟨N32, hN32⟩ : ∃ N_, N_ = L81 ++ N31 := ⟨_, rfl⟩
                have HF391 := HF390; rw [← List.append_assoc L81 N31 F, ← hN32] at HF391
                have hs38 : N31 ++ G ⊆ N32 ++ G := frz_s hN32
                have hz28 : RdS (kInt .i64) (N32 ++ G) A109 c131 t53 := RdS.mono ho81.rd (frz_l hN32)
                have HF392 := HF391.perm (pm_c (perm_f (perm_c (perm_f (perm_f (perm_c (perm_c (perm_c (perm_c (List.Perm.refl _))))))))).symm)
                obtain ⟨N33, hN33⟩ : ∃ N_, N_ = L82 ++ N32 := ⟨_, rfl⟩
                have HF393 := HF392; rw [← List.append_assoc L82 N32 F, ← hN33] at HF393
                have hs39 : N32 ++ G ⊆ N33 ++ G := frz_s hN33
                have hz29 : RdS k_T_api_Vert (N33 ++ G) A110 c132 t54 := RdS.mono ho82.rd (frz_l hN33)
                refine eW (oLit (r := [.int .i64 ((rd xc1 s4.1).f_Head.f_Age), .int .i64 ((rd xc1 s4.1).f_Head.f_Kind), .int .i64 ((rd xc1 s4.1).f_Head.f_Id), .int .i64 ((rd xc1 s4.1).f_Head.f_Adv), .int .i64 ((rd xc1 s4.1).f_Head.f_Seq), .int .i64 ((rd xc1 s4.1).f_Head.f_Sum), .int .i64 ((rd xc1 s4.1).f_Head.f_Len), .int .i64 ((rd xc1 s4.1).f_Flags), .slice A108 t52.length c130, .int .i64 ((rd xc1 s4.1).f_Bits), .slice A109 t53.length c131, .slice A110 t54.length c132]) (kShr (N33 ++ G) k_T_api_Lsa) [(⟨(⟨(rd xc1 s4.1).f_Head.f_Age, (rd xc1 s4.1).f_Head.f_Kind, (rd xc1 s4.1).f_Head.f_Id, (rd xc1 s4.1).f_Head.f_Adv, (rd xc1 s4.1).f_Head.f_Seq, (rd xc1 s4.1).f_Head.f_Sum, (rd xc1 s4.1).f_Head.f_Len⟩ : T_api_Head), (rd xc1 s4.1).f_Flags, t52, (rd xc1 s4.1).f_Bits, t53, t54⟩ : T_api_Lsa)] HF393 Try.underlying22 ti32 rfl rfl rfl rfl ⟨[], [], [.int .i64 ((rd xc1 s4.1).f_Head.f_Age), .int .i64 ((rd xc1 s4.1).f_Head.f_Kind), .int .i64 ((rd xc1 s4.1).f_Head.f_Id), .int .i64 ((rd xc1 s4.1).f_Head.f_Adv), .int .i64 ((rd xc1 s4.1).f_Head.f_Seq), .int .i64 ((rd xc1 s4.1).f_Head.f_Sum), .int .i64 ((rd xc1 s4.1).f_Head.f_Len), .int .i64 ((rd xc1 s4.1).f_Flags), .slice A108 t52.length c130, .int .i64 ((rd xc1 s4.1).f_Bits), .slice A109 t53.length c131, .slice A110 t54.length c132], _, rfl, rfl, ⟨rfl, mk_T_api_Lsa (x := (⟨(⟨(rd xc1 s4.1).f_Head.f_Age, (rd xc1 s4.1).f_Head.f_Kind, (rd xc1 s4.1).f_Head.f_Id, (rd xc1 s4.1).f_Head.f_Adv, (rd xc1 s4.1).f_Head.f_Seq, (rd xc1 s4.1).f_Head.f_Sum, (rd xc1 s4.1).f_Head.f_Len⟩ : T_api_Head), (rd xc1 s4.1).f_Flags, t52, (rd xc1 s4.1).f_Bits, t53, t54⟩ : T_api_Lsa)) ((RdS.mono hz27 (sub_t hs38 hs39))) ((RdS.mono hz28 hs39)) (hz29)⟩, ⟨rfl, rfl⟩⟩ rfl rfl) rfl ?_
                rintro _ w180 ⟨L83, A111, c133, rfl, HF394, ho83⟩
                replace H := chk H; obtain ⟨c134, H⟩ := H
                have HF395 := HF394.perm (perm_f (perm_c (List.Perm.refl _)))
                refine eW (oApp (xs := s4.2) (ys := ([(⟨(⟨(rd xc1 s4.1).f_Head.f_Age, (rd xc1 s4.1).f_Head.f_Kind, (rd xc1 s4.1).f_Head.f_Id, (rd xc1 s4.1).f_Head.f_Adv, (rd xc1 s4.1).f_Head.f_Seq, (rd xc1 s4.1).f_Head.f_Sum, (rd xc1 s4.1).f_Head.f_Len⟩ : T_api_Head), (rd xc1 s4.1).f_Flags, t52, (rd xc1 s4.1).f_Bits, t53, t54⟩ : T_api_Lsa)])) (kShr (N33 ++ G) k_T_api_Lsa) HF395 rfl rfl Try.underlying22 Try.underlying22 ti32 rfl (OwnS.lift hr30 (sub_t hs37 (sub_t hs38 hs39))) (srcR shrS ho83.rd HF395 (sub_a sub_h)) c134 rfl) rfl ?_
                rintro _ w181 ⟨L84, A112, c135, rfl, HF396, ho84⟩
                refine sL (fa38_11 rfl) rfl ?_
                have HF397 := HF396.perm (perm_f1 (perm_f1 (perm_c1 (List.Perm.refl _))))
                refine eS (oSt1 (l1 := [.int .i64 4, .int .i64 a0, .int .i64 0, .int .i64 0, .int .i64 0, .int .i64 0, .slice none 0 0, .int .i64 0, .int .i64 0, .slice none 0 0, .slice none 0 0, .slice A112 (s4.2 ++ [(⟨(⟨(rd xc1 s4.1).f_Head.f_Age, (rd xc1 s4.1).f_Head.f_Kind, (rd xc1 s4.1).f_Head.f_Id, (rd xc1 s4.1).f_Head.f_Adv, (rd xc1 s4.1).f_Head.f_Seq, (rd xc1 s4.1).f_Head.f_Sum, (rd xc1 s4.1).f_Head.f_Len⟩ : T_api_Head), (rd xc1 s4.1).f_Flags, t52, (rd xc1 s4.1).f_Bits, t53, t54⟩ : T_api_Lsa)]).length c135]) HF397 rfl rfl ti22 rfl rfl rfl) ?_
                rintro w182 HF398
                refine lEnd (K := fun _ _ => True) ?_
                refine jN (kN (?_))
                refine hK55 _ _ ?_
                refine rRgn [] trivial rfl ?_
                refine sL (bAdd rfl rfl) rfl ?_
                refine sL (mv rfl) rfl ?_
                refine lEnd (K := fun _ _ => True) ?_
                refine kN (?_)
                have hs40 : (N33 ++ G) ⊆ ((L82 ++ (L81 ++ (L80 ++ D8))) ++ (D6 ++ G)) := by rw [hN33, hN32, hN31, hN30]; simp only [List.append_assoc]; exact sub_r
                have HF399 := HF398.sublist (sl_c (sl_a (sl_da (sl_dc (sl_a (sl_a (sl_c (sl_c (sl_c (sl_c (List.Sublist.refl _)))))))))))
                have HF400 := HF399.perm (perm_c1 (perm_f1 (perm_f1 (perm_f1 (perm_c1 (perm_c1 (perm_c1 (List.Perm.refl _))))))))
                have HF401 := HF400.perm (perm_c1 (perm_c1 (perm_f1 (perm_f1 (perm_f1 (perm_c1 (perm_c1 (List.Perm.refl _))))))))
                have HF402 := HF401.perm (perm_c1 (perm_c1 (perm_c1 (perm_f1 (perm_f1 (perm_f1 (perm_c1 (List.Perm.refl _))))))))
                have HF403 := HF402.perm (perm_c1 (perm_c1 (perm_c1 (perm_c1 (perm_f1 (perm_f1 (perm_f1 (List.Perm.refl _))))))))
                have HF404 := HF403.perm (perm_c (perm_c (perm_c (perm_c (perm_c (perm_f (perm_f (List.Perm.refl _))))))))
                have HF405 := HF404.perm (perm_f (perm_c (perm_c (perm_c (perm_c (perm_c (perm_f (List.Perm.refl _))))))))
                have HF406 := HF405.perm (perm_f1 (perm_f1 (perm_c1 (perm_c1 (perm_c1 (perm_c1 (List.Perm.refl _)))))))
                have HF407 := HF406.perm (perm_c (perm_f (perm_f (perm_c (perm_c (perm_c (perm_c (List.Perm.refl _))))))))
                have HF408 := Fits.conv (L' := (L84 ++ (bk g19 38 [.int .i64 4, .int .i64 a0, .int .i64 0, .int .i64 0, .int .i64 0, .int .i64 0, .slice none 0 0, .int .i64 0, .int .i64 0, .slice none 0 0, .slice none 0 0, .slice A112 (s4.2 ++ [(⟨(⟨(rd xc1 s4.1).f_Head.f_Age, (rd xc1 s4.1).f_Head.f_Kind, (rd xc1 s4.1).f_Head.f_Id, (rd xc1 s4.1).f_Head.f_Adv, (rd xc1 s4.1).f_Head.f_Seq, (rd xc1 s4.1).f_Head.f_Sum, (rd xc1 s4.1).f_Head.f_Len⟩ : T_api_Head), (rd xc1 s4.1).f_Flags, t52, (rd xc1 s4.1).f_Bits, t53, t54⟩ : T_api_Lsa)]).length c135] :: (M_ ++ (L58 ++ (bk g3 22 [.slice A_a1 a1.length c_a1] :: (bk g4 3 [.int .i64 4] :: (bk g2 33 [.slice A77 s3.length c93] :: (bk g1 3 [.int .i64 a0] :: ((L82 ++ (L81 ++ (L80 ++ D8))) ++ (D6 ++ F))))))))))) HF407 (by rw [hN33, hN32, hN31, hN30]; simp only [List.append_assoc])
                exact ofEnv (fun a hE => ⟨_, (Option.some.inj H).symm, ⟨(L82 ++ (L81 ++ (L80 ++ D8))), _, _, L84, hE.keep (Keep.cons rfl (Keep.cons rfl (Keep.cons rfl (Keep.cons rfl (Keep.cons rfl (Keep.cons rfl (Keep.cons rfl (Keep.cons rfl (Keep.nil))))))))), HF408, (OwnS.lift ho84 hs40)⟩⟩)
              · refine qL rfl gd0 (ld rfl Try.underlying30 rfl (HF375.box (mem_a mem_h) rfl)) rfl HF376 ?_
                refine hTake 9 rfl (by kernel_rfl) (pThen (pBlock (pThen (pThen (pBlock (pThen (pThen (pBlock (pThen pNo))))))))) (fun w_ hS_ => fa32_2 rfl) HF376 rfl rfl ?_
                refine h1 5 (by kernel_rfl) rfl ?_
                replace H := bnd H; obtain ⟨t53, J56, H⟩ := H
                refine qCall rfl gd0 isf20 rfl rfl rfl (f_slices_Clone_int_int.ok (a0 := (rd xc1 s4.1).f_Routers) (sub_a (sub_c (sub_a (sub_c (sub_a (sub_a (sub_c (sub_c (sub_c (sub_c (sub_n hG))))))))))) J56 HF375 (sub_a (sub_c (sub_a (sub_c (sub_a (sub_a (sub_c (sub_c (sub_c (sub_c (sub_t (sub_t hs28 hs36) (sub_n hG)))))))))))) hr32) ?_
                rintro _ w175 ⟨A109, c131, L81, rfl, HF377, ho81⟩
                have HF378 := HF377.sublist (sl_da (sl_da (sl_dc (sl_a (sl_c (sl_a (sl_a (sl_c (sl_c (sl_c (sl_c (List.Sublist.refl _))))))))))))
                refine ⟨_, rfl, HF378, ?_⟩
                refine h1 8 (by kernel_rfl) rfl ?_
                replace H := bnd H; obtain ⟨t54, J57, H⟩ := H
                refine qCall rfl gd0 isf21 rfl rfl rfl (f_slices_Clone_api_Vert_api_Vert.ok (a0 := (rd xc1 s4.1).f_Verts) (sub_a (sub_a (sub_c (sub_a (sub_c (sub_a (sub_a (sub_c (sub_c (sub_c (sub_c (sub_n hG)))))))))))) J57 HF377 (sub_a (sub_a (sub_c (sub_a (sub_c (sub_a (sub_a (sub_c (sub_c (sub_c (sub_c (sub_t (sub_t hs28 hs36) (sub_n hG))))))))))))) hr33) ?_
                rintro _ w176 ⟨A110, c132, L82, rfl, HF379, ho82⟩
                have HF380 := HF379.sublist (sl_da (sl_da (sl_da (sl_dc (sl_a (sl_c (sl_a (sl_a (sl_c (sl_c (sl_c (sl_c (List.Sublist.refl _)))))))))))))
                refine ⟨_, rfl, HF380, ?_⟩
                refine h1 10 (by kernel_rfl) rfl ?_
                have HF381 := HF379.perm (perm_f1 (perm_f1 (perm_f1 (List.Perm.refl _))))
                refine qS rfl gd0 (oSt1 (l1 := [.int .i64 ((rd xc1 s4.1).f_Head.f_Age), .int .i64 ((rd xc1 s4.1).f_Head.f_Kind), .int .i64 ((rd xc1 s4.1).f_Head.f_Id), .int .i64 ((rd xc1 s4.1).f_Head.f_Adv), .int .i64 ((rd xc1 s4.1).f_Head.f_Seq), .int .i64 ((rd xc1 s4.1).f_Head.f_Sum), .int .i64 ((rd xc1 s4.1).f_Head.f_Len), .int .i64 ((rd xc1 s4.1).f_Flags), .slice A108 t52.length c130, .int .i64 ((rd xc1 s4.1).f_Bits), .slice A103 ((rd xc1 s4.1).f_Routers).length c125, .slice A104 ((rd xc1 s4.1).f_Verts).length c126]) HF381 rfl rfl ti28 rfl rfl rfl) ?_
                rintro w177 HF382
                have HF383 := HF382.sublist (sl_dc (sl_da (sl_da (sl_da (sl_a (sl_c (sl_a (sl_a (sl_c (sl_c (sl_c (sl_c (List.Sublist.refl _)))))))))))))
                refine ⟨HF383, ?_⟩
                refine hTake 11 rfl (by kernel_rfl) (pThen (pBlock (pThen (pThen (pBlock (pThen (pThen (pBlock (pThen pNo))))))))) (fun w_ hS_ => fa32_4 rfl) HF383 rfl rfl ?_
                refine h1 12 (by kernel_rfl) rfl ?_
                refine qS rfl gd0 (oSt1 (l1 := [.int .i64 ((rd xc1 s4.1).f_Head.f_Age), .int .i64 ((rd xc1 s4.1).f_Head.f_Kind), .int .i64 ((rd xc1 s4.1).f_Head.f_Id), .int .i64 ((rd xc1 s4.1).f_Head.f_Adv), .int .i64 ((rd xc1 s4.1).f_Head.f_Seq), .int .i64 ((rd xc1 s4.1).f_Head.f_Sum), .int .i64 ((rd xc1 s4.1).f_Head.f_Len), .int .i64 ((rd xc1 s4.1).f_Flags), .slice A108 t52.length c130, .int .i64 ((rd xc1 s4.1).f_Bits), .slice A109 t53.length c131, .slice A104 ((rd xc1 s4.1).f_Verts).length c126]) HF382 rfl rfl ti29 rfl rfl rfl) ?_
                rintro w178 HF384
                have HF385 := HF384.sublist (sl_dc (sl_da (sl_da (sl_da (sl_a (sl_c (sl_a (sl_a (sl_c (sl_c (sl_c (sl_c (List.Sublist.refl _)))))))))))))
                refine ⟨HF385, ?_⟩
                refine hTake 13 rfl (by kernel_rfl) (pThen (pBlock (pThen (pThen (pBlock (pThen (pThen (pBlock (pThen pNo))))))))) (fun w_ hS_ => fa32_5 rfl) HF385 rfl rfl ?_
                refine h1 14 (by kernel_rfl) rfl ?_
                refine qS rfl gd0 (oSt1 (l1 := [.int .i64 ((rd xc1 s4.1).f_Head.f_Age), .int .i64 ((rd xc1 s4.1).f_Head.f_Kind), .int .i64 ((rd xc1 s4.1).f_Head.f_Id), .int .i64 ((rd xc1 s4.1).f_Head.f_Adv), .int .i64 ((rd xc1 s4.1).f_Head.f_Seq), .int .i64 ((rd xc1 s4.1).f_Head.f_Sum), .int .i64 ((rd xc1 s4.1).f_Head.f_Len), .int .i64 ((rd xc1 s4.1).f_Flags), .slice A108 t52.length c130, .int .i64 ((rd xc1 s4.1).f_Bits), .slice A109 t53.length c131, .slice A110 t54.length c132]) HF384 rfl rfl ti30 rfl rfl rfl) ?_
                rintro w179 HF386
                have HF387 := HF386.sublist (sl_dc (sl_da (sl_da (sl_da (sl_a (sl_c (sl_a (sl_a (sl_c (sl_c (sl_c (sl_c (List.Sublist.refl _)))))))))))))
                refine ⟨HF387, ?_⟩
                refine hEnd (by kernel_rfl) ?_
                refine kN (?_)
                refine hK57 _ _ ?_
                refine rRgn [] trivial rfl ?_
                refine sL (fa38_11 rfl) rfl ?_
                refine sL (ld rfl Try.underlying22 rfl (HF386.box (mem_c (mem_a (mem_a (mem_a (mem_a mem_h))))) rfl)) rfl ?_
                refine sL (ldA (cs := [.int .i64 ((rd xc1 s4.1).f_Head.f_Age), .int .i64 ((rd xc1 s4.1).f_Head.f_Kind), .int .i64 ((rd xc1 s4.1).f_Head.f_Id), .int .i64 ((rd xc1 s4.1).f_Head.f_Adv), .int .i64 ((rd xc1 s4.1).f_Head.f_Seq), .int .i64 ((rd xc1 s4.1).f_Head.f_Sum), .int .i64 ((rd xc1 s4.1).f_Head.f_Len), .int .i64 ((rd xc1 s4.1).f_Flags), .slice A108 t52.length c130, .int .i64 ((rd xc1 s4.1).f_Bits), .slice A109 t53.length c131, .slice A110 t54.length c132]) rfl ti32 rfl rfl (HF386.boxes (o := 0) (n := 12) (mem_h) rfl)) rfl ?_
                have HF388 := HF386.perm (pm_c (pm_a (pm_a (perm_f (perm_c (perm_f (perm_f (perm_c (perm_c (perm_c (perm_c (List.Perm.refl _))))))))).symm)))
                obtain ⟨N31, hN31⟩ : ∃ N_, N_ = L80 ++ N30 := ⟨_, rfl⟩
                have HF389 := HF388; rw [← List.append_assoc L80 N30 F, ← hN31] at HF389
                have hs37 : N30 ++ G ⊆ N31 ++ G := frz_s hN31
                have hz27 : RdS k_T_api_Link (N31 ++ G) A108 c130 t52 := RdS.mono ho80.rd (frz_l hN31)
                have HF390 := HF389.perm (pm_c (pm_a (perm_f (perm_c (perm_f (perm_f (perm_c (perm_c (perm_c (perm_c (List.Perm.refl _))))))))).symm))
                obtain ⟨N32, hN32⟩ : ∃ N_, N_ = L81 ++ N31 := ⟨_, rfl⟩
                have HF391 := HF390; rw [← List.append_assoc L81 N31 F, ← hN32] at HF391
                have hs38 : N31 ++ G ⊆ N32 ++ G := frz_s hN32
                have hz28 : RdS (kInt .i64) (N32 ++ G) A109 c131 t53 := RdS.mono ho81.rd (frz_l hN32)
                have HF392 := HF391.perm (pm_c (perm_f (perm_c (perm_f (perm_f (perm_c (perm_c (perm_c (perm_c (List.Perm.refl _))))))))).symm)
                obtain ⟨N33, hN33⟩ : ∃ N_, N_ = L82 ++ N32 := ⟨_, rfl⟩
                have HF393 := HF392; rw [← List.append_assoc L82 N32 F, ← hN33] at HF393
                have hs39 : N32 ++ G ⊆ N33 ++ G := frz_s hN33
                have hz29 : RdS k_T_api_Vert (N33 ++ G) A110 c132 t54 := RdS.mono ho82.rd (frz_l hN33)
                refine eW (oLit (r := [.int .i64 ((rd xc1 s4.1).f_Head.f_Age), .int .i64 ((rd xc1 s4.1).f_Head.f_Kind), .int .i64 ((rd xc1 s4.1).f_Head.f_Id), .int .i64 ((rd xc1 s4.1).f_Head.f_Adv), .int .i64 ((rd xc1 s4.1).f_Head.f_Seq), .int .i64 ((rd xc1 s4.1).f_Head.f_Sum), .int .i64 ((rd xc1 s4.1).f_Head.f_Len), .int .i64 ((rd xc1 s4.1).f_Flags), .slice A108 t52.length c130, .int .i64 ((rd xc1 s4.1).f_Bits), .slice A109 t53.length c131, .slice A110 t54.length c132]) (kShr (N33 ++ G) k_T_api_Lsa) [(⟨(⟨(rd xc1 s4.1).f_Head.f_Age, (rd xc1 s4.1).f_Head.f_Kind, (rd xc1 s4.1).f_Head.f_Id, (rd xc1 s4.1).f_Head.f_Adv, (rd xc1 s4.1).f_Head.f_Seq, (rd xc1 s4.1).f_Head.f_Sum, (rd xc1 s4.1).f_Head.f_Len⟩ : T_api_Head), (rd xc1 s4.1).f_Flags, t52, (rd xc1 s4.1).f_Bits, t53, t54⟩ : T_api_Lsa)] HF393 Try.underlying22 ti32 rfl rfl rfl rfl ⟨[], [], [.int .i64 ((rd xc1 s4.1).f_Head.f_Age), .int .i64 ((rd xc1 s4.1).f_Head.f_Kind), .int .i64 ((rd xc1 s4.1).f_Head.f_Id), .int .i64 ((rd xc1 s4.1).f_Head.f_Adv), .int .i64 ((rd xc1 s4.1).f_Head.f_Seq), .int .i64 ((rd xc1 s4.1).f_Head.f_Sum), .int .i64 ((rd xc1 s4.1).f_Head.f_Len), .int .i64 ((rd xc1 s4.1).f_Flags), .slice A108 t52.length c130, .int .i64 ((rd xc1 s4.1).f_Bits), .slice A109 t53.length c131, .slice A110 t54.length c132], _, rfl, rfl, ⟨rfl, mk_T_api_Lsa (x := (⟨(⟨(rd xc1 s4.1).f_Head.f_Age, (rd xc1 s4.1).f_Head.f_Kind, (rd xc1 s4.1).f_Head.f_Id, (rd xc1 s4.1).f_Head.f_Adv, (rd xc1 s4.1).f_Head.f_Seq, (rd xc1 s4.1).f_Head.f_Sum, (rd xc1 s4.1).f_Head.f_Len⟩ : T_api_Head), (rd xc1 s4.1).f_Flags, t52, (rd xc1 s4.1).f_Bits, t53, t54⟩ : T_api_Lsa)) ((RdS.mono hz27 (sub_t hs38 hs39))) ((RdS.mono hz28 hs39)) (hz29)⟩, ⟨rfl, rfl⟩⟩ rfl rfl) rfl ?_
                rintro _ w180 ⟨L83, A111, c133, rfl, HF394, ho83⟩
                replace H := chk H; obtain ⟨c134, H⟩ := H
                have HF395 := HF394.perm (perm_f (perm_c (List.Perm.refl _)))
                refine eW (oApp (xs := s4.2) (ys := ([(⟨(⟨(rd xc1 s4.1).f_Head.f_Age, (rd xc1 s4.1).f_Head.f_Kind, (rd xc1 s4.1).f_Head.f_Id, (rd xc1 s4.1).f_Head.f_Adv, (rd xc1 s4.1).f_Head.f_Seq, (rd xc1 s4.1).f_Head.f_Sum, (rd xc1 s4.1).f_Head.f_Len⟩ : T_api_Head), (rd xc1 s4.1).f_Flags, t52, (rd xc1 s4.1).f_Bits, t53, t54⟩ : T_api_Lsa)])) (kShr (N33 ++ G) k_T_api_Lsa) HF395 rfl rfl Try.underlying22 Try.underlying22 ti32 rfl (OwnS.lift hr30 (sub_t hs37 (sub_t hs38 hs39))) (srcR shrS ho83.rd HF395 (sub_a sub_h)) c134 rfl) rfl ?_
                rintro _ w181 ⟨L84, A112, c135, rfl, HF396, ho84⟩
                refine sL (fa38_11 rfl) rfl ?_
                have HF397 := HF396.perm (perm_f1 (perm_f1 (perm_c1 (List.Perm.refl _))))
                refine eS (oSt1 (l1 := [.int .i64 4, .int .i64 a0, .int .i64 0, .int .i64 0, .int .i64 0, .int .i64 0, .slice none 0 0, .int .i64 0, .int .i64 0, .slice none 0 0, .slice none 0 0, .slice A112 (s4.2 ++ [(⟨(⟨(rd xc1 s4.1).f_Head.f_Age, (rd xc1 s4.1).f_Head.f_Kind, (rd xc1 s4.1).f_Head.f_Id, (rd xc1 s4.1).f_Head.f_Adv, (rd xc1 s4.1).f_Head.f_Seq, (rd xc1 s4.1).f_Head.f_Sum, (rd xc1 s4.1).f_Head.f_Len⟩ : T_api_Head), (rd xc1 s4.1).f_Flags, t52, (rd xc1 s4.1).f_Bits, t53, t54⟩ : T_api_Lsa)]).length c135]) HF397 rfl rfl ti22 rfl rfl rfl) ?_
                rintro w182 HF398
                refine lEnd (K := fun _ _ => True) ?_
                refine jN (kN (?_))
                refine hK55 _ _ ?_
                refine rRgn [] trivial rfl ?_
                refine sL (bAdd rfl rfl) rfl ?_
                refine sL (mv rfl) rfl ?_
                refine lEnd (K := fun _ _ => True) ?_
                refine kN (?_)
                have hs40 : (N33 ++ G) ⊆ ((L82 ++ (L81 ++ (L80 ++ D8))) ++ (D6 ++ G)) := by rw [hN33, hN32, hN31, hN30]; simp only [List.append_assoc]; exact sub_r
                have HF399 := HF398.sublist (sl_c (sl_a (sl_da (sl_dc (sl_a (sl_a (sl_c (sl_c (sl_c (sl_c (List.Sublist.refl _)))))))))))
                have HF400 := HF399.perm (perm_c1 (perm_f1 (perm_f1 (perm_f1 (perm_c1 (perm_c1 (perm_c1 (List.Perm.refl _))))))))
                have HF401 := HF400.perm (perm_c1 (perm_c1 (perm_f1 (perm_f1 (perm_f1 (perm_c1 (perm_c1 (List.Perm.refl _))))))))
                have HF402 := HF401.perm (perm_c1 (perm_c1 (perm_c1 (perm_f1 (perm_f1 (perm_f1 (perm_c1 (List.Perm.refl _))))))))
                have HF403 := HF402.perm (perm_c1 (perm_c1 (perm_c1 (perm_c1 (perm_f1 (perm_f1 (perm_f1 (List.Perm.refl _))))))))
                have HF404 := HF403.perm (perm_c (perm_c (perm_c (perm_c (perm_c (perm_f (perm_f (List.Perm.refl _))))))))
                have HF405 := HF404.perm (perm_f (perm_c (perm_c (perm_c (perm_c (perm_c (perm_f (List.Perm.refl _))))))))
                have HF406 := HF405.perm (perm_f1 (perm_f1 (perm_c1 (perm_c1 (perm_c1 (perm_c1 (List.Perm.refl _)))))))
                have HF407 := HF406.perm (perm_c (perm_f (perm_f (perm_c (perm_c (perm_c (perm_c (List.Perm.refl _))))))))
                have HF408 := Fits.conv (L' := (L84 ++ (bk g19 38 [.int .i64 4, .int .i64 a0, .int .i64 0, .int .i64 0, .int .i64 0, .int .i64 0, .slice none 0 0, .int .i64 0, .int .i64 0, .slice none 0 0, .slice none 0 0, .slice A112 (s4.2 ++ [(⟨(⟨(rd xc1 s4.1).f_Head.f_Age, (rd xc1 s4.1).f_Head.f_Kind, (rd xc1 s4.1).f_Head.f_Id, (rd xc1 s4.1).f_Head.f_Adv, (rd xc1 s4.1).f_Head.f_Seq, (rd xc1 s4.1).f_Head.f_Sum, (rd xc1 s4.1).f_Head.f_Len⟩ : T_api_Head), (rd xc1 s4.1).f_Flags, t52, (rd xc1 s4.1).f_Bits, t53, t54⟩ : T_api_Lsa)]).length c135] :: (M_ ++ (L58 ++ (bk g3 22 [.slice A_a1 a1.length c_a1] :: (bk g4 3 [.int .i64 4] :: (bk g2 33 [.slice A77 s3.length c93] :: (bk g1 3 [.int .i64 a0] :: ((L82 ++ (L81 ++ (L80 ++ D8))) ++ (D6 ++ F))))))))))) HF407 (by rw [hN33, hN32, hN31, hN30]; simp only [List.append_assoc])
                exact ofEnv (fun a hE => ⟨_, (Option.some.inj H).symm, ⟨(L82 ++ (L81 ++ (L80 ++ D8))), _, _, L84, hE.keep (Keep.cons rfl (Keep.cons rfl (Keep.cons rfl (Keep.cons rfl (Keep.cons rfl (Keep.cons rfl (Keep.cons rfl (Keep.cons rfl (Keep.nil))))))))), HF408, (OwnS.lift ho84 hs40)⟩⟩)
            · refine qL rfl gd0 (ld rfl Try.underlying30 rfl (HF375.box (mem_a mem_h) rfl)) rfl HF376 ?_
              refine h1 4 (by kernel_rfl) rfl ?_
              refine qL rfl gd0 (ld rfl Try.underlying29 rfl (HF375.box (mem_a mem_h) rfl)) rfl HF376 ?_
              refine hTake 9 rfl (by kernel_rfl) (pThen (pBlock (pThen (pThen (pBlock (pThen (pThen (pBlock (pThen pNo))))))))) (fun w_ hS_ => fa32_2 rfl) HF376 rfl rfl ?_
              refine h1 5 (by kernel_rfl) rfl ?_
              replace H := bnd H; obtain ⟨t53, J56, H⟩ := H
              refine qCall rfl gd0 isf20 rfl rfl rfl (f_slices_Clone_int_int.ok (a0 := (rd xc1 s4.1).f_Routers) (sub_a (sub_c (sub_a (sub_c (sub_a (sub_a (sub_c (sub_c (sub_c (sub_c (sub_n hG))))))))))) J56 HF375 (sub_a (sub_c (sub_a (sub_c (sub_a (sub_a (sub_c (sub_c (sub_c (sub_c (sub_t (sub_t hs28 hs36) (sub_n hG)))))))))))) hr32) ?_
              rintro _ w175 ⟨A109, c131, L81, rfl, HF377, ho81⟩
              have HF378 := HF377.sublist (sl_da (sl_da (sl_dc (sl_a (sl_c (sl_a (sl_a (sl_c (sl_c (sl_c (sl_c (List.Sublist.refl _))))))))))))
              refine ⟨_, rfl, HF378, ?_⟩
              refine h1 8 (by kernel_rfl) rfl ?_
              replace H := bnd H; obtain ⟨t54, J57, H⟩ := H
              refine qCall rfl gd0 isf21 rfl rfl rfl (f_slices_Clone_api_Vert_api_Vert.ok (a0 := (rd xc1 s4.1).f_Verts) (sub_a (sub_a (sub_c (sub_a (sub_c (sub_a (sub_a (sub_c (sub_c (sub_c (sub_c (sub_n hG)))))))))))) J57 HF377 (sub_a (sub_a (sub_c (sub_a (sub_c (sub_a (sub_a (sub_c (sub_c (sub_c (sub_c (sub_t (sub_t hs28 hs36) (sub_n hG))))))))))))) hr33) ?_
              rintro _ w176 ⟨A110, c132, L82, rfl, HF379, ho82⟩
              have HF380 := HF379.sublist (sl_da (sl_da (sl_da (sl_dc (sl_a (sl_c (sl_a (sl_a (sl_c (sl_c (sl_c (sl_c (List.Sublist.refl _)))))))))))))
              refine ⟨_, rfl, HF380, ?_⟩
              refine h1 10 (by kernel_rfl) rfl ?_
              have HF381 := HF379.perm (perm_f1 (perm_f1 (perm_f1 (List.Perm.refl _))))
              refine qS rfl gd0 (oSt1 (l1 := [.int .i64 ((rd xc1 s4.1).f_Head.f_Age), .int .i64 ((rd xc1 s4.1).f_Head.f_Kind), .int .i64 ((rd xc1 s4.1).f_Head.f_Id), .int .i64 ((rd xc1 s4.1).f_Head.f_Adv), .int .i64 ((rd xc1 s4.1).f_Head.f_Seq), .int .i64 ((rd xc1 s4.1).f_Head.f_Sum), .int .i64 ((rd xc1 s4.1).f_Head.f_Len), .int .i64 ((rd xc1 s4.1).f_Flags), .slice A108 t52.length c130, .int .i64 ((rd xc1 s4.1).f_Bits), .slice A103 ((rd xc1 s4.1).f_Routers).length c125, .slice A104 ((rd xc1 s4.1).f_Verts).length c126]) HF381 rfl rfl ti28 rfl rfl rfl) ?_
              rintro w177 HF382
              have HF383 := HF382.sublist (sl_dc (sl_da (sl_da (sl_da (sl_a (sl_c (sl_a (sl_a (sl_c (sl_c (sl_c (sl_c (List.Sublist.refl _)))))))))))))
              refine ⟨HF383, ?_⟩
              refine hTake 11 rfl (by kernel_rfl) (pThen (pBlock (pThen (pThen (pBlock (pThen (pThen (pBlock (pThen pNo))))))))) (fun w_ hS_ => fa32_4 rfl) HF383 rfl rfl ?_
              refine h1 12 (by kernel_rfl) rfl ?_
              refine qS rfl gd0 (oSt1 (l1 := [.int .i64 ((rd xc1 s4.1).f_Head.f_Age), .int .i64 ((rd xc1 s4.1).f_Head.f_Kind), .int .i64 ((rd xc1 s4.1).f_Head.f_Id), .int .i64 ((rd xc1 s4.1).f_Head.f_Adv), .int .i64 ((rd xc1 s4.1).f_Head.f_Seq), .int .i64 ((rd xc1 s4.1).f_Head.f_Sum), .int .i64 ((rd xc1 s4.1).f_Head.f_Len), .int .i64 ((rd xc1 s4.1).f_Flags), .slice A108 t52.length c130, .int .i64 ((rd xc1 s4.1).f_Bits), .slice A109 t53.length c131, .slice A104 ((rd xc1 s4.1).f_Verts).length c126]) HF382 rfl rfl ti29 rfl rfl rfl) ?_
              rintro w178 HF384
              have HF385 := HF384.sublist (sl_dc (sl_da (sl_da (sl_da (sl_a (sl_c (sl_a (sl_a (sl_c (sl_c (sl_c (sl_c (List.Sublist.refl _)))))))))))))
              refine ⟨HF385, ?_⟩
              refine hTake 13 rfl (by kernel_rfl) (pThen (pBlock (pThen (pThen (pBlock (pThen (pThen (pBlock (pThen pNo))))))))) (fun w_ hS_ => fa32_5 rfl) HF385 rfl rfl ?_
              refine h1 14 (by kernel_rfl) rfl ?_
              refine qS rfl gd0 (oSt1 (l1 := [.int .i64 ((rd xc1 s4.1).f_Head.f_Age), .int .i64 ((rd xc1 s4.1).f_Head.f_Kind), .int .i64 ((rd xc1 s4.1).f_Head.f_Id), .int .i64 ((rd xc1 s4.1).f_Head.f_Adv), .int .i64 ((rd xc1 s4.1).f_Head.f_Seq), .int .i64 ((rd xc1 s4.1).f_Head.f_Sum), .int .i64 ((rd xc1 s4.1).f_Head.f_Len), .int .i64 ((rd xc1 s4.1).f_Flags), .slice A108 t52.length c130, .int .i64 ((rd xc1 s4.1).f_Bits), .slice A109 t53.length c131, .slice A110 t54.length c132]) HF384 rfl rfl ti30 rfl rfl rfl) ?_
              rintro w179 HF386
              have HF387 := HF386.sublist (sl_dc (sl_da (sl_da (sl_da (sl_a (sl_c (sl_a (sl_a (sl_c (sl_c (sl_c (sl_c (List.Sublist.refl _)))))))))))))
              refine ⟨HF387, ?_⟩
              refine hEnd (by kernel_rfl) ?_
              refine kN (?_)
              refine hK57 _ _ ?_
              refine rRgn [] trivial rfl ?_
              refine sL (fa38_11 rfl) rfl ?_
              refine sL (ld rfl Try.underlying22 rfl (HF386.box (mem_c (mem_a (mem_a (mem_a (mem_a mem_h))))) rfl)) rfl ?_
              refine sL (ldA (cs := [.int .i64 ((rd xc1 s4.1).f_Head.f_Age), .int .i64 ((rd xc1 s4.1).f_Head.f_Kind), .int .i64 ((rd xc1 s4.1).f_Head.f_Id), .int .i64 ((rd xc1 s4.1).f_Head.f_Adv), .int .i64 ((rd xc1 s4.1).f_Head.f_Seq), .int .i64 ((rd xc1 s4.1).f_Head.f_Sum), .int .i64 ((rd xc1 s4.1).f_Head.f_Len), .int .i64 ((rd xc1 s4.1).f_Flags), .slice A108 t52.length c130, .int .i64 ((rd xc1 s4.1).f_Bits), .slice A109 t53.length c131, .slice A110 t54.length c132]) rfl ti32 rfl rfl (HF386.boxes (o := 0) (n := 12) (mem_h) rfl)) rfl ?_
              have HF388 := HF386.perm (pm_c (pm_a (pm_a (perm_f (perm_c (perm_f (perm_f (perm_c (perm_c (perm_c (perm_c (List.Perm.refl _))))))))).symm)))
              obtain ⟨N31, hN31⟩ : ∃ N_, N_ = L80 ++ N30 := ⟨_, rfl⟩
              have HF389 := HF388; rw [← List.append_assoc L80 N30 F, ← hN31] at HF389
              have hs37 : N30 ++ G ⊆ N31 ++ G := frz_s hN31
              have hz27 : RdS k_T_api_Link (N31 ++ G) A108 c130 t52 := RdS.mono ho80.rd (frz_l hN31)
              have HF390 := HF389.perm (pm_c (pm_a (perm_f (perm_c (perm_f (perm_f (perm_c (perm_c (perm_c (perm_c (List.Perm.refl _))))))))).symm))
              obtain ⟨N32, hN32⟩ : ∃ N_, N_ = L81 ++ N31 := ⟨_, rfl⟩
              have HF391 := HF390; rw [← List.append_assoc L81 N31 F, ← hN32] at HF391
              have hs38 : N31 ++ G ⊆ N32 ++ G := frz_s hN32
              have hz28 : RdS (kInt .i64) (N32 ++ G) A109 c131 t53 := RdS.mono ho81.rd (frz_l hN32)
              have HF392 := HF391.perm (pm_c (perm_f (perm_c (perm_f (perm_f (perm_c (perm_c (perm_c (perm_c (List.Perm.refl _))))))))).symm)
              obtain ⟨N33, hN33⟩ : ∃ N_, N_ = L82 ++ N32 := ⟨_, rfl⟩
              have HF393 := HF392; rw [← List.append_assoc L82 N32 F, ← hN33] at HF393
              have hs39 : N32 ++ G ⊆ N33 ++ G := frz_s hN33
              have hz29 : RdS k_T_api_Vert (N33 ++ G) A110 c132 t54 := RdS.mono ho82.rd (frz_l hN33)
              refine eW (oLit (r := [.int .i64 ((rd xc1 s4.1).f_Head.f_Age), .int .i64 ((rd xc1 s4.1).f_Head.f_Kind), .int .i64 ((rd xc1 s4.1).f_Head.f_Id), .int .i64 ((rd xc1 s4.1).f_Head.f_Adv), .int .i64 ((rd xc1 s4.1).f_Head.f_Seq), .int .i64 ((rd xc1 s4.1).f_Head.f_Sum), .int .i64 ((rd xc1 s4.1).f_Head.f_Len), .int .i64 ((rd xc1 s4.1).f_Flags), .slice A108 t52.length c130, .int .i64 ((rd xc1 s4.1).f_Bits), .slice A109 t53.length c131, .slice A110 t54.length c132]) (kShr (N33 ++ G) k_T_api_Lsa) [(⟨(⟨(rd xc1 s4.1).f_Head.f_Age, (rd xc1 s4.1).f_Head.f_Kind, (rd xc1 s4.1).f_Head.f_Id, (rd xc1 s4.1).f_Head.f_Adv, (rd xc1 s4.1).f_Head.f_Seq, (rd xc1 s4.1).f_Head.f_Sum, (rd xc1 s4.1).f_Head.f_Len⟩ : T_api_Head), (rd xc1 s4.1).f_Flags, t52, (rd xc1 s4.1).f_Bits, t53, t54⟩ : T_api_Lsa)] HF393 Try.underlying22 ti32 rfl rfl rfl rfl ⟨[], [], [.int .i64 ((rd xc1 s4.1).f_Head.f_Age), .int .i64 ((rd xc1 s4.1).f_Head.f_Kind), .int .i64 ((rd xc1 s4.1).f_Head.f_Id), .int .i64 ((rd xc1 s4.1).f_Head.f_Adv), .int .i64 ((rd xc1 s4.1).f_Head.f_Seq), .int .i64 ((rd xc1 s4.1).f_Head.f_Sum), .int .i64 ((rd xc1 s4.1).f_Head.f_Len), .int .i64 ((rd xc1 s4.1).f_Flags), .slice A108 t52.length c130, .int .i64 ((rd xc1 s4.1).f_Bits), .slice A109 t53.length c131, .slice A110 t54.length c132], _, rfl, rfl, ⟨rfl, mk_T_api_Lsa (x := (⟨(⟨(rd xc1 s4.1).f_Head.f_Age, (rd xc1 s4.1).f_Head.f_Kind, (rd xc1 s4.1).f_Head.f_Id, (rd xc1 s4.1).f_Head.f_Adv, (rd xc1 s4.1).f_Head.f_Seq, (rd xc1 s4.1).f_Head.f_Sum, (rd xc1 s4.1).f_Head.f_Len⟩ : T_api_Head), (rd xc1 s4.1).f_Flags, t52, (rd xc1 s4.1).f_Bits, t53, t54⟩ : T_api_Lsa)) ((RdS.mono hz27 (sub_t hs38 hs39))) ((RdS.mono hz28 hs39)) (hz29)⟩, ⟨rfl, rfl⟩⟩ rfl rfl) rfl ?_
              rintro _ w180 ⟨L83, A111, c133, rfl, HF394, ho83⟩
              replace H := chk H; obtain ⟨c134, H⟩ := H
              have HF395 := HF394.perm (perm_f (perm_c (List.Perm.refl _)))
              refine eW (oApp (xs := s4.2) (ys := ([(⟨(⟨(rd xc1 s4.1).f_Head.f_Age, (rd xc1 s4.1).f_Head.f_Kind, (rd xc1 s4.1).f_Head.f_Id, (rd xc1 s4.1).f_Head.f_Adv, (rd xc1 s4.1).f_Head.f_Seq, (rd xc1 s4.1).f_Head.f_Sum, (rd xc1 s4.1).f_Head.f_Len⟩ : T_api_Head), (rd xc1 s4.1).f_Flags, t52, (rd xc1 s4.1).f_Bits, t53, t54⟩ : T_api_Lsa)])) (kShr (N33 ++ G) k_T_api_Lsa) HF395 rfl rfl Try.underlying22 Try.underlying22 ti32 rfl (OwnS.lift hr30 (sub_t hs37 (sub_t hs38 hs39))) (srcR shrS ho83.rd HF395 (sub_a sub_h)) c134 rfl) rfl ?_
              rintro _ w181 ⟨L84, A112, c135, rfl, HF396, ho84⟩
              refine sL (fa38_11 rfl) rfl ?_
              have HF397 := HF396.perm (perm_f1 (perm_f1 (perm_c1 (List.Perm.refl _))))
              refine eS (oSt1 (l1 := [.int .i64 4, .int .i64 a0, .int .i64 0, .int .i64 0, .int .i64 0, .int .i64 0, .slice none 0 0, .int .i64 0, .int .i64 0, .slice none 0 0, .slice none 0 0, .slice A112 (s4.2 ++ [(⟨(⟨(rd xc1 s4.1).f_Head.f_Age, (rd xc1 s4.1).f_Head.f_Kind, (rd xc1 s4.1).f_Head.f_Id, (rd xc1 s4.1).f_Head.f_Adv, (rd xc1 s4.1).f_Head.f_Seq, (rd xc1 s4.1).f_Head.f_Sum, (rd xc1 s4.1).f_Head.f_Len⟩ : T_api_Head), (rd xc1 s4.1).f_Flags, t52, (rd xc1 s4.1).f_Bits, t53, t54⟩ : T_api_Lsa)]).length c135]) HF397 rfl rfl ti22 rfl rfl rfl) ?_
              rintro w182 HF398
              refine lEnd (K := fun _ _ => True) ?_
              refine jN (kN (?_))
              refine hK55 _ _ ?_
              refine rRgn [] trivial rfl ?_
              refine sL (bAdd rfl rfl) rfl ?_
              refine sL (mv rfl) rfl ?_
              refine lEnd (K := fun _ _ => True) ?_
              refine kN (?_)
              have hs40 : (N33 ++ G) ⊆ ((L82 ++ (L81 ++ (L80 ++ D8))) ++ (D6 ++ G)) := by rw [hN33, hN32, hN31, hN30]; simp only [List.append_assoc]; exact sub_r
              have HF399 := HF398.sublist (sl_c (sl_a (sl_da (sl_dc (sl_a (sl_a (sl_c (sl_c (sl_c (sl_c (List.Sublist.refl _)))))))))))
              have HF400 := HF399.perm (perm_c1 (perm_f1 (perm_f1 (perm_f1 (perm_c1 (perm_c1 (perm_c1 (List.Perm.refl _))))))))
              have HF401 := HF400.perm (perm_c1 (perm_c1 (perm_f1 (perm_f1 (perm_f1 (perm_c1 (perm_c1 (List.Perm.refl _))))))))
              have HF402 := HF401.perm (perm_c1 (perm_c1 (perm_c1 (perm_f1 (perm_f1 (perm_f1 (perm_c1 (List.Perm.refl _))))))))
              have HF403 := HF402.perm (perm_c1 (perm_c1 (perm_c1 (perm_c1 (perm_f1 (perm_f1 (perm_f1 (List.Perm.refl _))))))))
              have HF404 := HF403.perm (perm_c (perm_c (perm_c (perm_c (perm_c (perm_f (perm_f (List.Perm.refl _))))))))
              have HF405 := HF404.perm (perm_f (perm_c (perm_c (perm_c (perm_c (perm_c (perm_f (List.Perm.refl _))))))))
              have HF406 := HF405.perm (perm_f1 (perm_f1 (perm_c1 (perm_c1 (perm_c1 (perm_c1 (List.Perm.refl _)))))))
              have HF407 := HF406.perm (perm_c (perm_f (perm_f (perm_c (perm_c (perm_c (perm_c (List.Perm.refl _))))))))
              have HF408 := Fits.conv (L' := (L84 ++ (bk g19 38 [.int .i64 4, .int .i64 a0, .int .i64 0, .int .i64 0, .int .i64 0, .int .i64 0, .slice none 0 0, .int .i64 0, .int .i64 0, .slice none 0 0, .slice none 0 0, .slice A112 (s4.2 ++ [(⟨(⟨(rd xc1 s4.1).f_Head.f_Age, (rd xc1 s4.1).f_Head.f_Kind, (rd xc1 s4.1).f_Head.f_Id, (rd xc1 s4.1).f_Head.f_Adv, (rd xc1 s4.1).f_Head.f_Seq, (rd xc1 s4.1).f_Head.f_Sum, (rd xc1 s4.1).f_Head.f_Len⟩ : T_api_Head), (rd xc1 s4.1).f_Flags, t52, (rd xc1 s4.1).f_Bits, t53, t54⟩ : T_api_Lsa)]).length c135] :: (M_ ++ (L58 ++ (bk g3 22 [.slice A_a1 a1.length c_a1] :: (bk g4 3 [.int .i64 4] :: (bk g2 33 [.slice A77 s3.length c93] :: (bk g1 3 [.int .i64 a0] :: ((L82 ++ (L81 ++ (L80 ++ D8))) ++ (D6 ++ F))))))))))) HF407 (by rw [hN33, hN32, hN31, hN30]; simp only [List.append_assoc])
              exact ofEnv (fun a hE => ⟨_, (Option.some.inj H).symm, ⟨(L82 ++ (L81 ++ (L80 ++ D8))), _, _, L84, hE.keep (Keep.cons rfl (Keep.cons rfl (Keep.cons rfl (Keep.cons rfl (Keep.cons rfl (Keep.cons rfl (Keep.cons rfl (Keep.cons rfl (Keep.nil))))))))), HF408, (OwnS.lift ho84 hs40)⟩⟩)
          · refine qL rfl gd0 (ld rfl Try.underlying29 rfl (HF373.box (mem_h) rfl)) rfl HF374 ?_
            refine h2 2 7 (by kernel_rfl) rfl rfl ?_ ?_
            · replace H := bnd H; obtain ⟨t52, J55, H⟩ := H
              refine qCall rfl gd0 isf19 rfl rfl rfl (f_slices_Clone_api_Link_api_Link.ok (a0 := (rd xc1 s4.1).f_Links) (sub_c (sub_a (sub_c (sub_a (sub_a (sub_c (sub_c (sub_c (sub_c (sub_n hG)))))))))) J55 HF373 (sub_c (sub_a (sub_c (sub_a (sub_a (sub_c (sub_c (sub_c (sub_c (sub_t (sub_t hs28 hs36) (sub_n hG))))))))))) hr31) ?_
              rintro _ w174 ⟨A108, c130, L80, rfl, HF375, ho80⟩
              have HF376 := HF375.sublist (sl_da (sl_dc (sl_a (sl_c (sl_a (sl_a (sl_c (sl_c (sl_c (sl_c (List.Sublist.refl _)))))))))))
              refine ⟨_, rfl, HF376, ?_⟩
              refine h2 5 7 (by kernel_rfl) rfl rfl ?_ ?_
              · replace H := bnd H; obtain ⟨t53, J56, H⟩ := H
                refine qCall rfl gd0 isf20 rfl rfl rfl (f_slices_Clone_int_int.ok (a0 := (rd xc1 s4.1).f_Routers) (sub_a (sub_c (sub_a (sub_c (sub_a (sub_a (sub_c (sub_c (sub_c (sub_c (sub_n hG))))))))))) J56 HF375 (sub_a (sub_c (sub_a (sub_c (sub_a (sub_a (sub_c (sub_c (sub_c (sub_c (sub_t (sub_t hs28 hs36) (sub_n hG)))))))))))) hr32) ?_
                rintro _ w175 ⟨A109, c131, L81, rfl, HF377, ho81⟩
                have HF378 := HF377.sublist (sl_da (sl_da (sl_dc (sl_a (sl_c (sl_a (sl_a (sl_c (sl_c (sl_c (sl_c (List.Sublist.refl _))))))))))))
                refine ⟨_, rfl, HF378, ?_⟩
                refine h1 7 (by kernel_rfl) rfl ?_
                refine qL rfl gd0 (ld rfl Try.underlying30 rfl (HF377.box (mem_a (mem_a mem_h)) rfl)) rfl HF378 ?_
                refine hTake 9 rfl (by kernel_rfl) (pThen (pBlock (pThen (pThen (pBlock (pThen (pThen (pBlock (pThen pNo))))))))) (fun w_ hS_ => fa32_2 rfl) HF378 rfl rfl ?_
                refine h1 8 (by kernel_rfl) rfl ?_
                replace H := bnd H; obtain ⟨t54, J57, H⟩ := H
                refine qCall rfl gd0 isf21 rfl rfl rfl (f_slices_Clone_api_Vert_api_Vert.ok (a0 := (rd xc1 s4.1).f_Verts) (sub_a (sub_a (sub_c (sub_a (sub_c (sub_a (sub_a (sub_c (sub_c (sub_c (sub_c (sub_n hG)))))))))))) J57 HF377 (sub_a (sub_a (sub_c (sub_a (sub_c (sub_a (sub_a (sub_c (sub_c (sub_c (sub_c (sub_t (sub_t hs28 hs36) (sub_n hG))))))))))))) hr33) ?_
                rintro _ w176 ⟨A110, c132, L82, rfl, HF379, ho82⟩
                have HF380 := HF379.sublist (sl_da (sl_da (sl_da (sl_dc (sl_a (sl_c (sl_a (sl_a (sl_c (sl_c (sl_c (sl_c (List.Sublist.refl _)))))))))))))
                refine ⟨_, rfl, HF380, ?_⟩
                refine h1 10 (by kernel_rfl) rfl ?_
                have HF381 := HF379.perm (perm_f1 (perm_f1 (perm_f1 (List.Perm.refl _))))
                refine qS rfl gd0 (oSt1 (l1 := [.int .i64 ((rd xc1 s4.1).f_Head.f_Age), .int .i64 ((rd xc1 s4.1).f_Head.f_Kind), .int .i64 ((rd xc1 s4.1).f_Head.f_Id), .int .i64 ((rd xc1 s4.1).f_Head.f_Adv), .int .i64 ((rd xc1 s4.1).f_Head.f_Seq), .int .i64 ((rd xc1 s4.1).f_Head.f_Sum), .int .i64 ((rd xc1 s4.1).f_Head.f_Len), .int .i64 ((rd xc1 s4.1).f_Flags), .slice A108 t52.length c130, .int .i64 ((rd xc1 s4.1).f_Bits), .slice A103 ((rd xc1 s4.1).f_Routers).length c125, .slice A104 ((rd xc1 s4.1).f_Verts).length c126]) HF381 rfl rfl ti28 rfl rfl rfl) ?_
                rintro w177 HF382
                have HF383 := HF382.sublist (sl_dc (sl_da (sl_da (sl_da (sl_a (sl_c (sl_a (sl_a (sl_c (sl_c (sl_c (sl_c (List.Sublist.refl _)))))))))))))
                refine ⟨HF383, ?_⟩
                refine hTake 11 rfl (by kernel_rfl) (pThen (pBlock (pThen (pThen (pBlock (pThen (pThen (pBlock (pThen pNo))))))))) (fun w_ hS_ => fa32_4 rfl) HF383 rfl rfl ?_
                refine h1 12 (by kernel_rfl) rfl ?_
                refine qS rfl gd0 (oSt1 (l1 := [.int .i64 ((rd xc1 s4.1).f_Head.f_Age), .int .i64 ((rd xc1 s4.1).f_Head.f_Kind), .int .i64 ((rd xc1 s4.1).f_Head.f_Id), .int .i64 ((rd xc1 s4.1).f_Head.f_Adv), .int .i64 ((rd xc1 s4.1).f_Head.f_Seq), .int .i64 ((rd xc1 s4.1).f_Head.f_Sum), .int .i64 ((rd xc1 s4.1).f_Head.f_Len), .int .i64 ((rd xc1 s4.1).f_Flags), .slice A108 t52.length c130, .int .i64 ((rd xc1 s4.1).f_Bits), .slice A109 t53.length c131, .slice A104 ((rd xc1 s4.1).f_Verts).length c126]) HF382 rfl rfl ti29 rfl rfl rfl) ?_
                rintro w178 HF384
                have HF385 := HF384.sublist (sl_dc (sl_da (sl_da (sl_da (sl_a (sl_c (sl_a (sl_a (sl_c (sl_c (sl_c (sl_c (List.Sublist.refl _)))))))))))))
                refine ⟨HF385, ?_⟩
                refine hTake 13 rfl (by kernel_rfl) (pThen (pBlock (pThen (pThen (pBlock (pThen (pThen (pBlock (pThen pNo))))))))) (fun w_ hS_ => fa32_5 rfl) HF385 rfl rfl ?_
                refine h1 14 (by kernel_rfl) rfl ?_
                refine qS rfl gd0 (oSt1 (l1 := [.int .i64 ((rd xc1 s4.1).f_Head.f_Age), .int .i64 ((rd xc1 s4.1).f_Head.f_Kind), .int .i64 ((rd xc1 s4.1).f_Head.f_Id), .int .i64 ((rd xc1 s4.1).f_Head.f_Adv), .int .i64 ((rd xc1 s4.1).f_Head.f_Seq), .int .i64 ((rd xc1 s4.1).f_Head.f_Sum), .int .i64 ((rd xc1 s4.1).f_Head.f_Len), .int .i64 ((rd xc1 s4.1).f_Flags), .slice A108 t52.length c130, .int .i64 ((rd xc1 s4.1).f_Bits), .slice A109 t53.length c131, .slice A110 t54.length c132]) HF384 rfl rfl ti30 rfl rfl rfl) ?_
                rintro w179 HF386
                have HF387 := HF386.sublist (sl_dc (sl_da (sl_da (sl_da (sl_a (sl_c (sl_a (sl_a (sl_c (sl_c (sl_c (sl_c (List.Sublist.refl _)))))))))))))
                refine ⟨HF387, ?_⟩
                refine hEnd (by kernel_rfl) ?_
                refine kN (?_)
                refine hK57 _ _ ?_
                refine rRgn [] trivial rfl ?_
                refine sL (fa38_11 rfl) rfl ?_
                refine sL (ld rfl Try.underlying22 rfl (HF386.box (mem_c (mem_a (mem_a (mem_a (mem_a mem_h))))) rfl)) rfl ?_
                refine sL (ldA (cs := [.int .i64 ((rd xc1 s4.1).f_Head.f_Age), .int .i64 ((rd xc1 s4.1).f_Head.f_Kind), .int .i64 ((rd xc1 s4.1).f_Head.f_Id), .int .i64 ((rd xc1 s4.1).f_Head.f_Adv), .int .i64 ((rd xc1 s4.1).f_Head.f_Seq), .int .i64 ((rd xc1 s4.1).f_Head.f_Sum), .int .i64 ((rd xc1 s4.1).f_Head.f_Len), .int .i64 ((rd xc1 s4.1).f_Flags), .slice A108 t52.length c130, .int .i64 ((rd xc1 s4.1).f_Bits), .slice A109 t53.length c131, .slice A110 t54.length c132]) rfl ti32 rfl rfl (HF386.boxes (o := 0) (n := 12) (mem_h) rfl)) rfl ?_
                have HF388 := HF386.perm (pm_c (pm_a (pm_a (perm_f (perm_c (perm_f (perm_f (perm_c (perm_c (perm_c (perm_c (List.Perm.refl _))))))))).symm)))
                obtain ⟨N31, hN31⟩ : ∃ N_, N_ = L80 ++ N30 := ⟨_, rfl⟩
                have HF389 := HF388; rw [← List.append_assoc L80 N30 F, ← hN31] at HF389
                have hs37 : N30 ++ G ⊆ N31 ++ G := frz_s hN31
                have hz27 : RdS k_T_api_Link (N31 ++ G) A108 c130 t52 := RdS.mono ho80.rd (frz_l hN31)
                have HF390 := HF389.perm (pm_c (pm_a (perm_f (perm_c (perm_f (perm_f (perm_c (perm_c (perm_c (perm_c (List.Perm.refl _))))))))).symm))
                obtain ⟨N32, hN32⟩ : ∃ N_, N_ = L81 ++ N31 := ⟨_, rfl⟩
                have HF391 := HF390; rw [← List.append_assoc L81 N31 F, ← hN32] at HF391
                have hs38 : N31 ++ G ⊆ N32 ++ G := frz_s hN32
                have hz28 : RdS (kInt .i64) (N32 ++ G) A109 c131 t53 := RdS.mono ho81.rd (frz_l hN32)
                have HF392 := HF391.perm (pm_c (perm_f (perm_c (perm_f (perm_f (perm_c (perm_c (perm_c (perm_c (List.Perm.refl _))))))))).symm)
                obtain ⟨N33, hN33⟩ : ∃ N_, N_ = L82 ++ N32 := ⟨_, rfl⟩
                have HF393 := HF392; rw [← List.append_assoc L82 N32 F, ← hN33] at HF393
                have hs39 : N32 ++ G ⊆ N33 ++ G := frz_s hN33
                have hz29 : RdS k_T_api_Vert (N33 ++ G) A110 c132 t54 := RdS.mono ho82.rd (frz_l hN33)
                refine eW (oLit (r := [.int .i64 ((rd xc1 s4.1).f_Head.f_Age), .int .i64 ((rd xc1 s4.1).f_Head.f_Kind), .int .i64 ((rd xc1 s4.1).f_Head.f_Id), .int .i64 ((rd xc1 s4.1).f_Head.f_Adv), .int .i64 ((rd xc1 s4.1).f_Head.f_Seq), .int .i64 ((rd xc1 s4.1).f_Head.f_Sum), .int .i64 ((rd xc1 s4.1).f_Head.f_Len), .int .i64 ((rd xc1 s4.1).f_Flags), .slice A108 t52.length c130, .int .i64 ((rd xc1 s4.1).f_Bits), .slice A109 t53.length c131, .slice A110 t54.length c132]) (kShr (N33 ++ G) k_T_api_Lsa) [(⟨(⟨(rd xc1 s4.1).f_Head.f_Age, (rd xc1 s4.1).f_Head.f_Kind, (rd xc1 s4.1).f_Head.f_Id, (rd xc1 s4.1).f_Head.f_Adv, (rd xc1 s4.1).f_Head.f_Seq, (rd xc1 s4.1).f_Head.f_Sum, (rd xc1 s4.1).f_Head.f_Len⟩ : T_api_Head), (rd xc1 s4.1).f_Flags, t52, (rd xc1 s4.1).f_Bits, t53, t54⟩ : T_api_Lsa)] HF393 Try.underlying22 ti32 rfl rfl rfl rfl ⟨[], [], [.int .i64 ((rd xc1 s4.1).f_Head.f_Age), .int .i64 ((rd xc1 s4.1).f_Head.f_Kind), .int .i64 ((rd xc1 s4.1).f_Head.f_Id), .int .i64 ((rd xc1 s4.1).f_Head.f_Adv), .int .i64 ((rd xc1 s4.1).f_Head.f_Seq), .int .i64 ((rd xc1 s4.1).f_Head.f_Sum), .int .i64 ((rd xc1 s4.1).f_Head.f_Len), .int .i64 ((rd xc1 s4.1).f_Flags), .slice A108 t52.length c130, .int .i64 ((rd xc1 s4.1).f_Bits), .slice A109 t53.length c131, .slice A110 t54.length c132], _, rfl, rfl, ⟨rfl, mk_T_api_Lsa (x := (⟨(⟨(rd xc1 s4.1).f_Head.f_Age, (rd xc1 s4.1).f_Head.f_Kind, (rd xc1 s4.1).f_Head.f_Id, (rd xc1 s4.1).f_Head.f_Adv, (rd xc1 s4.1).f_Head.f_Seq, (rd xc1 s4.1).f_Head.f_Sum, (rd xc1 s4.1).f_Head.f_Len⟩ : T_api_Head), (rd xc1 s4.1).f_Flags, t52, (rd xc1 s4.1).f_Bits, t53, t54⟩ : T_api_Lsa)) ((RdS.mono hz27 (sub_t hs38 hs39))) ((RdS.mono hz28 hs39)) (hz29)⟩, ⟨rfl, rfl⟩⟩ rfl rfl) rfl ?_
                rintro _ w180 ⟨L83, A111, c133, rfl, HF394, ho83⟩
                replace H := chk H; obtain ⟨c134, H⟩ := H
                have HF395 := HF394.perm (perm_f (perm_c (List.Perm.refl _)))
                refine eW (oApp (xs := s4.2) (ys := ([(⟨(⟨(rd xc1 s4.1).f_Head.f_Age, (rd xc1 s4.1).f_Head.f_Kind, (rd xc1 s4.1).f_Head.f_Id, (rd xc1 s4.1).f_Head.f_Adv, (rd xc1 s4.1).f_Head.f_Seq, (rd xc1 s4.1).f_Head.f_Sum, (rd xc1 s4.1).f_Head.f_Len⟩ : T_api_Head), (rd xc1 s4.1).f_Flags, t52, (rd xc1 s4.1).f_Bits, t53, t54⟩ : T_api_Lsa)])) (kShr (N33 ++ G) k_T_api_Lsa) HF395 rfl rfl Try.underlying22 Try.underlying22 ti32 rfl (OwnS.lift hr30 (sub_t hs37 (sub_t hs38 hs39))) (srcR shrS ho83.rd HF395 (sub_a sub_h)) c134 rfl) rfl ?_
                rintro _ w181 ⟨L84, A112, c135, rfl, HF396, ho84⟩
                refine sL (fa38_11 rfl) rfl ?_
                have HF397 := HF396.perm (perm_f1 (perm_f1 (perm_c1 (List.Perm.refl _))))
                refine eS (oSt1 (l1 := [.int .i64 4, .int .i64 a0, .int .i64 0, .int .i64 0, .int .i64 0, .int .i64 0, .slice none 0 0, .int .i64 0, .int .i64 0, .slice none 0 0, .slice none 0 0, .slice A112 (s4.2 ++ [(⟨(⟨(rd xc1 s4.1).f_Head.f_Age, (rd xc1 s4.1).f_Head.f_Kind, (rd xc1 s4.1).f_Head.f_Id, (rd xc1 s4.1).f_Head.f_Adv, (rd xc1 s4.1).f_Head.f_Seq, (rd xc1 s4.1).f_Head.f_Sum, (rd xc1 s4.1).f_Head.f_Len⟩ : T_api_Head), (rd xc1 s4.1).f_Flags, t52, (rd xc1 s4.1).f_Bits, t53, t54⟩ : T_api_Lsa)]).length c135]) HF397 rfl rfl ti22 rfl rfl rfl) ?_
                rintro w182 HF398
                refine lEnd (K := fun _ _ => True) ?_
                refine jN (kN (?_))
                refine hK55 _ _ ?_
                refine rRgn [] trivial rfl ?_
                refine sL (bAdd rfl rfl) rfl ?_
                refine sL (mv rfl) rfl ?_
                refine lEnd (K := fun _ _ => True) ?_
                refine kN (?_)
                have hs40 : (N33 ++ G) ⊆ ((L82 ++ (L81 ++ (L80 ++ D8))) ++ (D6 ++ G)) := by rw [hN33, hN32, hN31, hN30]; simp only [List.append_assoc]; exact sub_r
                have HF399 := HF398.sublist (sl_c (sl_a (sl_da (sl_dc (sl_a (sl_a (sl_c (sl_c (sl_c (sl_c (List.Sublist.refl _)))))))))))
                have HF400 := HF399.perm (perm_c1 (perm_f1 (perm_f1 (perm_f1 (perm_c1 (perm_c1 (perm_c1 (List.Perm.refl _))))))))
                have HF401 := HF400.perm (perm_c1 (perm_c1 (perm_f1 (perm_f1 (perm_f1 (perm_c1 (perm_c1 (List.Perm.refl _))))))))
                have HF402 := HF401.perm (perm_c1 (perm_c1 (perm_c1 (perm_f1 (perm_f1 (perm_f1 (perm_c1 (List.Perm.refl _))))))))
                have HF403 := HF402.perm (perm_c1 (perm_c1 (perm_c1 (perm_c1 (perm_f1 (perm_f1 (perm_f1 (List.Perm.refl _))))))))
                have HF404 := HF403.perm (perm_c (perm_c (perm_c (perm_c (perm_c (perm_f (perm_f (List.Perm.refl _))))))))
                have HF405 := HF404.perm (perm_f (perm_c (perm_c (perm_c (perm_c (perm_c (perm_f (List.Perm.refl _))))))))
                have HF406 := HF405.perm (perm_f1 (perm_f1 (perm_c1 (perm_c1 (perm_c1 (perm_c1 (List.Perm.refl _)))))))
                have HF407 := HF406.perm (perm_c (perm_f (perm_f (perm_c (perm_c (perm_c (perm_c (List.Perm.refl _))))))))
                have HF408 := Fits.conv (L' := (L84 ++ (bk g19 38 [.int .i64 4, .int .i64 a0, .int .i64 0, .int .i64 0, .int .i64 0, .int .i64 0, .slice none 0 0, .int .i64 0, .int .i64 0, .slice none 0 0, .slice none 0 0, .slice A112 (s4.2 ++ [(⟨(⟨(rd xc1 s4.1).f_Head.f_Age, (rd xc1 s4.1).f_Head.f_Kind, (rd xc1 s4.1).f_Head.f_Id, (rd xc1 s4.1).f_Head.f_Adv, (rd xc1 s4.1).f_Head.f_Seq, (rd xc1 s4.1).f_Head.f_Sum, (rd xc1 s4.1).f_Head.f_Len⟩ : T_api_Head), (rd xc1 s4.1).f_Flags, t52, (rd xc1 s4.1).f_Bits, t53, t54⟩ : T_api_Lsa)]).length c135] :: (M_ ++ (L58 ++ (bk g3 22 [.slice A_a1 a1.length c_a1] :: (bk g4 3 [.int .i64 4] :: (bk g2 33 [.slice A77 s3.length c93] :: (bk g1 3 [.int .i64 a0] :: ((L82 ++ (L81 ++ (L80 ++ D8))) ++ (D6 ++ F))))))))))) HF407 (by rw [hN33, hN32, hN31, hN30]; simp only [List.append_assoc])
                exact ofEnv (fun a hE => ⟨_, (Option.some.inj H).symm, ⟨(L82 ++ (L81 ++ (L80 ++ D8))), _, _, L84, hE.keep (Keep.cons rfl (Keep.cons rfl (Keep.cons rfl (Keep.cons rfl (Keep.cons rfl (Keep.cons rfl (Keep.cons rfl (Keep.cons rfl (Keep.nil))))))))), HF408, (OwnS.lift ho84 hs40)⟩⟩)
              · refine qL rfl gd0 (ld rfl Try.underlying30 rfl (HF375.box (mem_a mem_h) rfl)) rfl HF376 ?_
                refine hTake 9 rfl (by kernel_rfl) (pThen (pBlock (pThen (pThen (pBlock (pThen (pThen (pBlock (pThen pNo))))))))) (fun w_ hS_ => fa32_2 rfl) HF376 rfl rfl ?_
                refine h1 5 (by kernel_rfl) rfl ?_
                replace H := bnd H; obtain ⟨t53, J56, H⟩ := H
                refine qCall rfl gd0 isf20 rfl rfl rfl (f_slices_Clone_int_int.ok (a0 := (rd xc1 s4.1).f_Routers) (sub_a (sub_c (sub_a (sub_c (sub_a (sub_a (sub_c (sub_c (sub_c (sub_c (sub_n hG))))))))))) J56 HF375 (sub_a (sub_c (sub_a (sub_c (sub_a (sub_a (sub_c (sub_c (sub_c (sub_c (sub_t (sub_t hs28 hs36) (sub_n hG)))))))))))) hr32) ?_
                rintro _ w175 ⟨A109, c131, L81, rfl, HF377, ho81⟩
                have HF378 := HF377.sublist (sl_da (sl_da (sl_dc (sl_a (sl_c (sl_a (sl_a (sl_c (sl_c (sl_c (sl_c (List.Sublist.refl _))))))))))))
                refine ⟨_, rfl, HF378, ?_⟩
                refine h1 8 (by kernel_rfl) rfl ?_
                replace H := bnd H; obtain ⟨t54, J57, H⟩ := H
                refine qCall rfl gd0 isf21 rfl rfl rfl (f_slices_Clone_api_Vert_api_Vert.ok (a0 := (rd xc1 s4.1).f_Verts) (sub_a (sub_a (sub_c (sub_a (sub_c (sub_a (sub_a (sub_c (sub_c (sub_c (sub_c (sub_n hG)))))))))))) J57 HF377 (sub_a (sub_a (sub_c (sub_a (sub_c (sub_a (sub_a (sub_c (sub_c (sub_c (sub_c (sub_t (sub_t hs28 hs36) (sub_n hG))))))))))))) hr33) ?_
                rintro _ w176 ⟨A110, c132, L82, rfl, HF379, ho82⟩
                have HF380 := HF379.sublist (sl_da (sl_da (sl_da (sl_dc (sl_a (sl_c (sl_a (sl_a (sl_c (sl_c (sl_c (sl_c (List.Sublist.refl _)))))))))))))
                refine ⟨_, rfl, HF380, ?_⟩
                refine h1 10 (by kernel_rfl) rfl ?_
                have HF381 := HF379.perm (perm_f1 (perm_f1 (perm_f1 (List.Perm.refl _))))
                refine qS rfl gd0 (oSt1 (l1 := [.int .i64 ((rd xc1 s4.1).f_Head.f_Age), .int .i64 ((rd xc1 s4.1).f_Head.f_Kind), .int .i64 ((rd xc1 s4.1).f_Head.f_Id), .int .i64 ((rd xc1 s4.1).f_Head.f_Adv), .int .i64 ((rd xc1 s4.1).f_Head.f_Seq), .int .i64 ((rd xc1 s4.1).f_Head.f_Sum), .int .i64 ((rd xc1 s4.1).f_Head.f_Len), .int .i64 ((rd xc1 s4.1).f_Flags), .slice A108 t52.length c130, .int .i64 ((rd xc1 s4.1).f_Bits), .slice A103 ((rd xc1 s4.1).f_Routers).length c125, .slice A104 ((rd xc1 s4.1).f_Verts).length c126]) HF381 rfl rfl ti28 rfl rfl rfl) ?_
                rintro w177 HF382
                have HF383 := HF382.sublist (sl_dc (sl_da (sl_da (sl_da (sl_a (sl_c (sl_a (sl_a (sl_c (sl_c (sl_c (sl_c (List.Sublist.refl _)))))))))))))
                refine ⟨HF383, ?_⟩
                refine hTake 11 rfl (by kernel_rfl) (pThen (pBlock (pThen (pThen (pBlock (pThen (pThen (pBlock (pThen pNo))))))))) (fun w_ hS_ => fa32_4 rfl) HF383 rfl rfl ?_
                refine h1 12 (by kernel_rfl) rfl ?_
                refine qS rfl gd0 (oSt1 (l1 := [.int .i64 ((rd xc1 s4.1).f_Head.f_Age), .int .i64 ((rd xc1 s4.1).f_Head.f_Kind), .int .i64 ((rd xc1 s4.1).f_Head.f_Id), .int .i64 ((rd xc1 s4.1).f_Head.f_Adv), .int .i64 ((rd xc1 s4.1).f_Head.f_Seq), .int .i64 ((rd xc1 s4.1).f_Head.f_Sum), .int .i64 ((rd xc1 s4.1).f_Head.f_Len), .int .i64 ((rd xc1 s4.1).f_Flags), .slice A108 t52.length c130, .int .i64 ((rd xc1 s4.1).f_Bits), .slice A109 t53.length c131, .slice A104 ((rd xc1 s4.1).f_Verts).length c126]) HF382 rfl rfl ti29 rfl rfl rfl) ?_
                rintro w178 HF384
                have HF385 := HF384.sublist (sl_dc (sl_da (sl_da (sl_da (sl_a (sl_c (sl_a (sl_a (sl_c (sl_c (sl_c (sl_c (List.Sublist.refl _)))))))))))))
                refine ⟨HF385, ?_⟩
                refine hTake 13 rfl (by kernel_rfl) (pThen (pBlock (pThen (pThen (pBlock (pThen (pThen (pBlock (pThen pNo))))))))) (fun w_ hS_ => fa32_5 rfl) HF385 rfl rfl ?_
                refine h1 14 (by kernel_rfl) rfl ?_
                refine qS rfl gd0 (oSt1 (l1 := [.int .i64 ((rd xc1 s4.1).f_Head.f_Age), .int .i64 ((rd xc1 s4.1).f_Head.f_Kind), .int .i64 ((rd xc1 s4.1).f_Head.f_Id), .int .i64 ((rd xc1 s4.1).f_Head.f_Adv), .int .i64 ((rd xc1 s4.1).f_Head.f_Seq), .int .i64 ((rd xc1 s4.1).f_Head.f_Sum), .int .i64 ((rd xc1 s4.1).f_Head.f_Len), .int .i64 ((rd xc1 s4.1).f_Flags), .slice A108 t52.length c130, .int .i64 ((rd xc1 s4.1).f_Bits), .slice A109 t53.length c131, .slice A110 t54.length c132]) HF384 rfl rfl ti30 rfl rfl rfl) ?_
                rintro w179 HF386
                have HF387 := HF386.sublist (sl_dc (sl_da (sl_da (sl_da (sl_a (sl_c (sl_a (sl_a (sl_c (sl_c (sl_c (sl_c (List.Sublist.refl _)))))))))))))
                refine ⟨HF387, ?_⟩
                refine hEnd (by kernel_rfl) ?_
                refine kN (?_)
                refine hK57 _ _ ?_
                refine rRgn [] trivial rfl ?_
                refine sL (fa38_11 rfl) rfl ?_
                refine sL (ld rfl Try.underlying22 rfl (HF386.box (mem_c (mem_a (mem_a (mem_a (mem_a mem_h))))) rfl)) rfl ?_
                refine sL (ldA (cs := [.int .i64 ((rd xc1 s4.1).f_Head.f_Age), .int .i64 ((rd xc1 s4.1).f_Head.f_Kind), .int .i64 ((rd xc1 s4.1).f_Head.f_Id), .int .i64 ((rd xc1 s4.1).f_Head.f_Adv), .int .i64 ((rd xc1 s4.1).f_Head.f_Seq), .int .i64 ((rd xc1 s4.1).f_Head.f_Sum), .int .i64 ((rd xc1 s4.1).f_Head.f_Len), .int .i64 ((rd xc1 s4.1).f_Flags), .slice A108 t52.length c130, .int .i64 ((rd xc1 s4.1).f_Bits), .slice A109 t53.length c131, .slice A110 t54.length c132]) rfl ti32 rfl rfl (HF386.boxes (o := 0) (n := 12) (mem_h) rfl)) rfl ?_
                have HF388 := HF386.perm (pm_c (pm_a (pm_a (perm_f (perm_c (perm_f (perm_f (perm_c (perm_c (perm_c (perm_c (List.Perm.refl _))))))))).symm)))
                obtain ⟨N31, hN31⟩ : ∃ N_, N_ = L80 ++ N30 := ⟨_, rfl⟩
                have HF389 := HF388; rw [← List.append_assoc L80 N30 F, ← hN31] at HF389
                have hs37 : N30 ++ G ⊆ N31 ++ G := frz_s hN31
                have hz27 : RdS k_T_api_Link (N31 ++ G) A108 c130 t52 := RdS.mono ho80.rd (frz_l hN31)
                have HF390 := HF389.perm (pm_c (pm_a (perm_f (perm_c (perm_f (perm_f (perm_c (perm_c (perm_c (perm_c (List.Perm.refl _))))))))).symm))
                obtain ⟨N32, hN32⟩ : ∃ N_, N_ = L81 ++ N31 := ⟨_, rfl⟩
                have HF391 := HF390; rw [← List.append_assoc L81 N31 F, ← hN32] at HF391
                have hs38 : N31 ++ G ⊆ N32 ++ G := frz_s hN32
                have hz28 : RdS (kInt .i64) (N32 ++ G) A109 c131 t53 := RdS.mono ho81.rd (frz_l hN32)
                have HF392 := HF391.perm (pm_c (perm_f (perm_c (perm_f (perm_f (perm_c (perm_c (perm_c (perm_c (List.Perm.refl _))))))))).symm)
                obtain ⟨N33, hN33⟩ : ∃ N_, N_ = L82 ++ N32 := ⟨_, rfl⟩
                have HF393 := HF392; rw [← List.append_assoc L82 N32 F, ← hN33] at HF393
                have hs39 : N32 ++ G ⊆ N33 ++ G := frz_s hN33
                have hz29 : RdS k_T_api_Vert (N33 ++ G) A110 c132 t54 := RdS.mono ho82.rd (frz_l hN33)
                refine eW (oLit (r := [.int .i64 ((rd xc1 s4.1).f_Head.f_Age), .int .i64 ((rd xc1 s4.1).f_Head.f_Kind), .int .i64 ((rd xc1 s4.1).f_Head.f_Id), .int .i64 ((rd xc1 s4.1).f_Head.f_Adv), .int .i64 ((rd xc1 s4.1).f_Head.f_Seq), .int .i64 ((rd xc1 s4.1).f_Head.f_Sum), .int .i64 ((rd xc1 s4.1).f_Head.f_Len), .int .i64 ((rd xc1 s4.1).f_Flags), .slice A108 t52.length c130, .int .i64 ((rd xc1 s4.1).f_Bits), .slice A109 t53.length c131, .slice A110 t54.length c132]) (kShr (N33 ++ G) k_T_api_Lsa) [(⟨(⟨(rd xc1 s4.1).f_Head.f_Age, (rd xc1 s4.1).f_Head.f_Kind, (rd xc1 s4.1).f_Head.f_Id, (rd xc1 s4.1).f_Head.f_Adv, (rd xc1 s4.1).f_Head.f_Seq, (rd xc1 s4.1).f_Head.f_Sum, (rd xc1 s4.1).f_Head.f_Len⟩ : T_api_Head), (rd xc1 s4.1).f_Flags, t52, (rd xc1 s4.1).f_Bits, t53, t54⟩ : T_api_Lsa)] HF393 Try.underlying22 ti32 rfl rfl rfl rfl ⟨[], [], [.int .i64 ((rd xc1 s4.1).f_Head.f_Age), .int .i64 ((rd xc1 s4.1).f_Head.f_Kind), .int .i64 ((rd xc1 s4.1).f_Head.f_Id), .int .i64 ((rd xc1 s4.1).f_Head.f_Adv), .int .i64 ((rd xc1 s4.1).f_Head.f_Seq), .int .i64 ((rd xc1 s4.1).f_Head.f_Sum), .int .i64 ((rd xc1 s4.1).f_Head.f_Len), .int .i64 ((rd xc1 s4.1).f_Flags), .slice A108 t52.length c130, .int .i64 ((rd xc1 s4.1).f_Bits), .slice A109 t53.length c131, .slice A110 t54.length c132], _, rfl, rfl, ⟨rfl, mk_T_api_Lsa (x := (⟨(⟨(rd xc1 s4.1).f_Head.f_Age, (rd xc1 s4.1).f_Head.f_Kind, (rd xc1 s4.1).f_Head.f_Id, (rd xc1 s4.1).f_Head.f_Adv, (rd xc1 s4.1).f_Head.f_Seq, (rd xc1 s4.1).f_Head.f_Sum, (rd xc1 s4.1).f_Head.f_Len⟩ : T_api_Head), (rd xc1 s4.1).f_Flags, t52, (rd xc1 s4.1).f_Bits, t53, t54⟩ : T_api_Lsa)) ((RdS.mono hz27 (sub_t hs38 hs39))) ((RdS.mono hz28 hs39)) (hz29)⟩, ⟨rfl, rfl⟩⟩ rfl rfl) rfl ?_
                rintro _ w180 ⟨L83, A111, c133, rfl, HF394, ho83⟩
                replace H := chk H; obtain ⟨c134, H⟩ := H
                have HF395 := HF394.perm (perm_f (perm_c (List.Perm.refl _)))
                refine eW (oApp (xs := s4.2) (ys := ([(⟨(⟨(rd xc1 s4.1).f_Head.f_Age, (rd xc1 s4.1).f_Head.f_Kind, (rd xc1 s4.1).f_Head.f_Id, (rd xc1 s4.1).f_Head.f_Adv, (rd xc1 s4.1).f_Head.f_Seq, (rd xc1 s4.1).f_Head.f_Sum, (rd xc1 s4.1).f_Head.f_Len⟩ : T_api_Head), (rd xc1 s4.1).f_Flags, t52, (rd xc1 s4.1).f_Bits, t53, t54⟩ : T_api_Lsa)])) (kShr (N33 ++ G) k_T_api_Lsa) HF395 rfl rfl Try.underlying22 Try.underlying22 ti32 rfl (OwnS.lift hr30 (sub_t hs37 (sub_t hs38 hs39))) (srcR shrS ho83.rd HF395 (sub_a sub_h)) c134 rfl) rfl ?_
                rintro _ w181 ⟨L84, A112, c135, rfl, HF396, ho84⟩
                refine sL (fa38_11 rfl) rfl ?_
                have HF397 := HF396.perm (perm_f1 (perm_f1 (perm_c1 (List.Perm.refl _))))
                refine eS (oSt1 (l1 := [.int .i64 4, .int .i64 a0, .int .i64 0, .int .i64 0, .int .i64 0, .int .i64 0, .slice none 0 0, .int .i64 0, .int .i64 0, .slice none 0 0, .slice none 0 0, .slice A112 (s4.2 ++ [(⟨(⟨(rd xc1 s4.1).f_Head.f_Age, (rd xc1 s4.1).f_Head.f_Kind, (rd xc1 s4.1).f_Head.f_Id, (rd xc1 s4.1).f_Head.f_Adv, (rd xc1 s4.1).f_Head.f_Seq, (rd xc1 s4.1).f_Head.f_Sum, (rd xc1 s4.1).f_Head.f_Len⟩ : T_api_Head), (rd xc1 s4.1).f_Flags, t52, (rd xc1 s4.1).f_Bits, t53, t54⟩ : T_api_Lsa)]).length c135]) HF397 rfl rfl ti22 rfl rfl rfl) ?_
                rintro w182 HF398
                refine lEnd (K := fun _ _ => True) ?_
                refine jN (kN (?_))
                refine hK55 _ _ ?_
                refine rRgn [] trivial rfl ?_
                refine sL (bAdd rfl rfl) rfl ?_
                refine sL (mv rfl) rfl ?_
                refine lEnd (K := fun _ _ => True) ?_
                refine kN (?_)
                have hs40 : (N33 ++ G) ⊆ ((L82 ++ (L81 ++ (L80 ++ D8))) ++ (D6 ++ G)) := by rw [hN33, hN32, hN31, hN30]; simp only [List.append_assoc]; exact sub_r
                have HF399 := HF398.sublist (sl_c (sl_a (sl_da (sl_dc (sl_a (sl_a (sl_c (sl_c (sl_c (sl_c (List.Sublist.refl _)))))))))))
                have HF400 := HF399.perm (perm_c1 (perm_f1 (perm_f1 (perm_f1 (perm_c1 (perm_c1 (perm_c1 (List.Perm.refl _))))))))
                have HF401 := HF400.perm (perm_c1 (perm_c1 (perm_f1 (perm_f1 (perm_f1 (perm_c1 (perm_c1 (List.Perm.refl _))))))))
                have HF402 := HF401.perm (perm_c1 (perm_c1 (perm_c1 (perm_f1 (perm_f1 (perm_f1 (perm_c1 (List.Perm.refl _))))))))
                have HF403 := HF402.perm (perm_c1 (perm_c1 (perm_c1 (perm_c1 (perm_f1 (perm_f1 (perm_f1 (List.Perm.refl _))))))))
                have HF404 := HF403.perm (perm_c (perm_c (perm_c (perm_c (perm_c (perm_f (perm_f (List.Perm.refl _))))))))
                have HF405 := HF404.perm (perm_f (perm_c (perm_c (perm_c (perm_c (perm_c (perm_f (List.Perm.refl _))))))))
                have HF406 := HF405.perm (perm_f1 (perm_f1 (perm_c1 (perm_c1 (perm_c1 (perm_c1 (List.Perm.refl _)))))))
                have HF407 := HF406.perm (perm_c (perm_f (perm_f (perm_c (perm_c (perm_c (perm_c (List.Perm.refl _))))))))
                have HF408 := Fits.conv (L' := (L84 ++ (bk g19 38 [.int .i64 4, .int .i64 a0, .int .i64 0, .int .i64 0, .int .i64 0, .int .i64 0, .slice none 0 0, .int .i64 0, .int .i64 0, .slice none 0 0, .slice none 0 0, .slice A112 (s4.2 ++ [(⟨(⟨(rd xc1 s4.1).f_Head.f_Age, (rd xc1 s4.1).f_Head.f_Kind, (rd xc1 s4.1).f_Head.f_Id, (rd xc1 s4.1).f_Head.f_Adv, (rd xc1 s4.1).f_Head.f_Seq, (rd xc1 s4.1).f_Head.f_Sum, (rd xc1 s4.1).f_Head.f_Len⟩ : T_api_Head), (rd xc1 s4.1).f_Flags, t52, (rd xc1 s4.1).f_Bits, t53, t54⟩ : T_api_Lsa)]).length c135] :: (M_ ++ (L58 ++ (bk g3 22 [.slice A_a1 a1.length c_a1] :: (bk g4 3 [.int .i64 4] :: (bk g2 33 [.slice A77 s3.length c93] :: (bk g1 3 [.int .i64 a0] :: ((L82 ++ (L81 ++ (L80 ++ D8))) ++ (D6 ++ F))))))))))) HF407 (by rw [hN33, hN32, hN31, hN30]; simp only [List.append_assoc])
                exact ofEnv (fun a hE => ⟨_, (Option.some.inj H).symm, ⟨(L82 ++ (L81 ++ (L80 ++ D8))), _, _, L84, hE.keep (Keep.cons rfl (Keep.cons rfl (Keep.cons rfl (Keep.cons rfl (Keep.cons rfl (Keep.cons rfl (Keep.cons rfl (Keep.cons rfl (Keep.nil))))))))), HF408, (OwnS.lift ho84 hs40)⟩⟩)
            · refine qL rfl gd0 (ld rfl Try.underlying30 rfl (HF373.box (mem_h) rfl)) rfl HF374 ?_
              refine h1 2 (by kernel_rfl) rfl ?_
              replace H := bnd H; obtain ⟨t52, J55, H⟩ := H
              refine qCall rfl gd0 isf19 rfl rfl rfl (f_slices_Clone_api_Link_api_Link.ok (a0 := (rd xc1 s4.1).f_Links) (sub_c (sub_a (sub_c (sub_a (sub_a (sub_c (sub_c (sub_c (sub_c (sub_n hG)))))))))) J55 HF373 (sub_c (sub_a (sub_c (sub_a (sub_a (sub_c (sub_c (sub_c (sub_c (sub_t (sub_t hs28 hs36) (sub_n hG))))))))))) hr31) ?_
              rintro _ w174 ⟨A108, c130, L80, rfl, HF375, ho80⟩
              have HF376 := HF375.sublist (sl_da (sl_dc (sl_a (sl_c (sl_a (sl_a (sl_c (sl_c (sl_c (sl_c (List.Sublist.refl _)))))))))))
              refine ⟨_, rfl, HF376, ?_⟩
              refine hTake 9 rfl (by kernel_rfl) (pThen (pBlock (pThen (pThen (pBlock (pThen (pThen (pBlock (pThen pNo))))))))) (fun w_ hS_ => fa32_2 rfl) HF376 rfl rfl ?_
              refine h1 5 (by kernel_rfl) rfl ?_
              replace H := bnd H; obtain ⟨t53, J56, H⟩ := H
              refine qCall rfl gd0 isf20 rfl rfl rfl (f_slices_Clone_int_int.ok (a0 := (rd xc1 s4.1).f_Routers) (sub_a (sub_c (sub_a (sub_c (sub_a (sub_a (sub_c (sub_c (sub_c (sub_c (sub_n hG))))))))))) J56 HF375 (sub_a (sub_c (sub_a (sub_c (sub_a (sub_a (sub_c (sub_c (sub_c (sub_c (sub_t (sub_t hs28 hs36) (sub_n hG)))))))))))) hr32) ?_
              rintro _ w175 ⟨A109, c131, L81, rfl, HF377, ho81⟩
              have HF378 := HF377.sublist (sl_da (sl_da (sl_dc (sl_a (sl_c (sl_a (sl_a (sl_c (sl_c (sl_c (sl_c (List.Sublist.refl _))))))))))))
              refine ⟨_, rfl, HF378, ?_⟩
              refine h1 8 (by kernel_rfl) rfl ?_
              replace H := bnd H; obtain ⟨t54, J57, H⟩ := H
              refine qCall rfl gd0 isf21 rfl rfl rfl (f_slices_Clone_api_Vert_api_Vert.ok (a0 := (rd xc1 s4.1).f_Verts) (sub_a (sub_a (sub_c (sub_a (sub_c (sub_a (sub_a (sub_c (sub_c (sub_c (sub_c (sub_n hG)))))))))))) J57 HF377 (sub_a (sub_a (sub_c (sub_a (sub_c (sub_a (sub_a (sub_c (sub_c (sub_c (sub_c (sub_t (sub_t hs28 hs36) (sub_n hG))))))))))))) hr33) ?_
              rintro _ w176 ⟨A110, c132, L82, rfl, HF379, ho82⟩
              have HF380 := HF379.sublist (sl_da (sl_da (sl_da (sl_dc (sl_a (sl_c (sl_a (sl_a (sl_c (sl_c (sl_c (sl_c (List.Sublist.refl _)))))))))))))
              refine ⟨_, rfl, HF380, ?_⟩
              refine h1 10 (by kernel_rfl) rfl ?_
              have HF381 := HF379.perm (perm_f1 (perm_f1 (perm_f1 (List.Perm.refl _))))
              refine qS rfl gd0 (oSt1 (l1 := [.int .i64 ((rd xc1 s4.1).f_Head.f_Age), .int .i64 ((rd xc1 s4.1).f_Head.f_Kind), .int .i64 ((rd xc1 s4.1).f_Head.f_Id), .int .i64 ((rd xc1 s4.1).f_Head.f_Adv), .int .i64 ((rd xc1 s4.1).f_Head.f_Seq), .int .i64 ((rd xc1 s4.1).f_Head.f_Sum), .int .i64 ((rd xc1 s4.1).f_Head.f_Len), .int .i64 ((rd xc1 s4.1).f_Flags), .slice A108 t52.length c130, .int .i64 ((rd xc1 s4.1).f_Bits), .slice A103 ((rd xc1 s4.1).f_Routers).length c125, .slice A104 ((rd xc1 s4.1).f_Verts).length c126]) HF381 rfl rfl ti28 rfl rfl rfl) ?_
              rintro w177 HF382
              have HF383 := HF382.sublist (sl_dc (sl_da (sl_da (sl_da (sl_a (sl_c (sl_a (sl_a (sl_c (sl_c (sl_c (sl_c (List.Sublist.refl _)))))))))))))
              refine ⟨HF383, ?_⟩
              refine hTake 11 rfl (by kernel_rfl) (pThen (pBlock (pThen (pThen (pBlock (pThen (pThen (pBlock (pThen pNo))))))))) (fun w_ hS_ => fa32_4 rfl) HF383 rfl rfl ?_
              refine h1 12 (by kernel_rfl) rfl ?_
              refine qS rfl gd0 (oSt1 (l1 := [.int .i64 ((rd xc1 s4.1).f_Head.f_Age), .int .i64 ((rd xc1 s4.1).f_Head.f_Kind), .int .i64 ((rd xc1 s4.1).f_Head.f_Id), .int .i64 ((rd xc1 s4.1).f_Head.f_Adv), .int .i64 ((rd xc1 s4.1).f_Head.f_Seq), .int .i64 ((rd xc1 s4.1).f_Head.f_Sum), .int .i64 ((rd xc1 s4.1).f_Head.f_Len), .int .i64 ((rd xc1 s4.1).f_Flags), .slice A108 t52.length c130, .int .i64 ((rd xc1 s4.1).f_Bits), .slice A109 t53.length c131, .slice A104 ((rd xc1 s4.1).f_Verts).length c126]) HF382 rfl rfl ti29 rfl rfl rfl) ?_
              rintro w178 HF384
              have HF385 := HF384.sublist (sl_dc (sl_da (sl_da (sl_da (sl_a (sl_c (sl_a (sl_a (sl_c (sl_c (sl_c (sl_c (List.Sublist.refl _)))))))))))))
              refine ⟨HF385, ?_⟩
              refine hTake 13 rfl (by kernel_rfl) (pThen (pBlock (pThen (pThen (pBlock (pThen (pThen (pBlock (pThen pNo))))))))) (fun w_ hS_ => fa32_5 rfl) HF385 rfl rfl ?_
              refine h1 14 (by kernel_rfl) rfl ?_
              refine qS rfl gd0 (oSt1 (l1 := [.int .i64 ((rd xc1 s4.1).f_Head.f_Age), .int .i64 ((rd xc1 s4.1).f_Head.f_Kind), .int .i64 ((rd xc1 s4.1).f_Head.f_Id), .int .i64 ((rd xc1 s4.1).f_Head.f_Adv), .int .i64 ((rd xc1 s4.1).f_Head.f_Seq), .int .i64 ((rd xc1 s4.1).f_Head.f_Sum), .int .i64 ((rd xc1 s4.1).f_Head.f_Len), .int .i64 ((rd xc1 s4.1).f_Flags), .slice A108 t52.length c130, .int .i64 ((rd xc1 s4.1).f_Bits), .slice A109 t53.length c131, .slice A110 t54.length c132]) HF384 rfl rfl ti30 rfl rfl rfl) ?_
              rintro w179 HF386
              have HF387 := HF386.sublist (sl_dc (sl_da (sl_da (sl_da (sl_a (sl_c (sl_a (sl_a (sl_c (sl_c (sl_c (sl_c (List.Sublist.refl _)))))))))))))
              refine ⟨HF387, ?_⟩
              refine hEnd (by kernel_rfl) ?_
              refine kN (?_)
              refine hK57 _ _ ?_
              refine rRgn [] trivial rfl ?_
              refine sL (fa38_11 rfl) rfl ?_
              refine sL (ld rfl Try.underlying22 rfl (HF386.box (mem_c (mem_a (mem_a (mem_a (mem_a mem_h))))) rfl)) rfl ?_
              refine sL (ldA (cs := [.int .i64 ((rd xc1 s4.1).f_Head.f_Age), .int .i64 ((rd xc1 s4.1).f_Head.f_Kind), .int .i64 ((rd xc1 s4.1).f_Head.f_Id), .int .i64 ((rd xc1 s4.1).f_Head.f_Adv), .int .i64 ((rd xc1 s4.1).f_Head.f_Seq), .int .i64 ((rd xc1 s4.1).f_Head.f_Sum), .int .i64 ((rd xc1 s4.1).f_Head.f_Len), .int .i64 ((rd xc1 s4.1).f_Flags), .slice A108 t52.length c130, .int .i64 ((rd xc1 s4.1).f_Bits), .slice A109 t53.length c131, .slice A110 t54.length c132]) rfl ti32 rfl rfl (HF386.boxes (o := 0) (n := 12) (mem_h) rfl)) rfl ?_
              have HF388 := HF386.perm (pm_c (pm_a (pm_a (perm_f (perm_c (perm_f (perm_f (perm_c (perm_c (perm_c (perm_c (List.Perm.refl _))))))))).symm)))
              obtain ⟨N31, hN31⟩ : ∃ N_, N_ = L80 ++ N30 := ⟨_, rfl⟩
              have HF389 := HF388; rw [← List.append_assoc L80 N30 F, ← hN31] at HF389
              have hs37 : N30 ++ G ⊆ N31 ++ G := frz_s hN31
              have hz27 : RdS k_T_api_Link (N31 ++ G) A108 c130 t52 := RdS.mono ho80.rd (frz_l hN31)
              have HF390 := HF389.perm (pm_c (pm_a (perm_f (perm_c (perm_f (perm_f (perm_c (perm_c (perm_c (perm_c (List.Perm.refl _))))))))).symm))
              obtain ⟨N32, hN32⟩ : ∃ N_, N_ = L81 ++ N31 := ⟨_, rfl⟩
              have HF391 := HF390; rw [← List.append_assoc L81 N31 F, ← hN32] at HF391
              have hs38 : N31 ++ G ⊆ N32 ++ G := frz_s hN32
              have hz28 : RdS (kInt .i64) (N32 ++ G) A109 c131 t53 := RdS.mono ho81.rd (frz_l hN32)
              have HF392 := HF391.perm (pm_c (perm_f (perm_c (perm_f (perm_f (perm_c (perm_c (perm_c (perm_c (List.Perm.refl _))))))))).symm)
              obtain ⟨N33, hN33⟩ : ∃ N_, N_ = L82 ++ N32 := ⟨_, rfl⟩
              have HF393 := HF392; rw [← List.append_assoc L82 N32 F, ← hN33] at HF393
              have hs39 : N32 ++ G ⊆ N33 ++ G := frz_s hN33
              have hz29 : RdS k_T_api_Vert (N33 ++ G) A110 c132 t54 := RdS.mono ho82.rd (frz_l hN33)
              refine eW (oLit (r := [.int .i64 ((rd xc1 s4.1).f_Head.f_Age), .int .i64 ((rd xc1 s4.1).f_Head.f_Kind), .int .i64 ((rd xc1 s4.1).f_Head.f_Id), .int .i64 ((rd xc1 s4.1).f_Head.f_Adv), .int .i64 ((rd xc1 s4.1).f_Head.f_Seq), .int .i64 ((rd xc1 s4.1).f_Head.f_Sum), .int .i64 ((rd xc1 s4.1).f_Head.f_Len), .int .i64 ((rd xc1 s4.1).f_Flags), .slice A108 t52.length c130, .int .i64 ((rd xc1 s4.1).f_Bits), .slice A109 t53.length c131, .slice A110 t54.length c132]) (kShr (N33 ++ G) k_T_api_Lsa) [(⟨(⟨(rd xc1 s4.1).f_Head.f_Age, (rd xc1 s4.1).f_Head.f_Kind, (rd xc1 s4.1).f_Head.f_Id, (rd xc1 s4.1).f_Head.f_Adv, (rd xc1 s4.1).f_Head.f_Seq, (rd xc1 s4.1).f_Head.f_Sum, (rd xc1 s4.1).f_Head.f_Len⟩ : T_api_Head), (rd xc1 s4.1).f_Flags, t52, (rd xc1 s4.1).f_Bits, t53, t54⟩ : T_api_Lsa)] HF393 Try.underlying22 ti32 rfl rfl rfl rfl ⟨[], [], [.int .i64 ((rd xc1 s4.1).f_Head.f_Age), .int .i64 ((rd xc1 s4.1).f_Head.f_Kind), .int .i64 ((rd xc1 s4.1).f_Head.f_Id), .int .i64 ((rd xc1 s4.1).f_Head.f_Adv), .int .i64 ((rd xc1 s4.1).f_Head.f_Seq), .int .i64 ((rd xc1 s4.1).f_Head.f_Sum), .int .i64 ((rd xc1 s4.1).f_Head.f_Len), .int .i64 ((rd xc1 s4.1).f_Flags), .slice A108 t52.length c130, .int .i64 ((rd xc1 s4.1).f_Bits), .slice A109 t53.length c131, .slice A110 t54.length c132], _, rfl, rfl, ⟨rfl, mk_T_api_Lsa (x := (⟨(⟨(rd xc1 s4.1).f_Head.f_Age, (rd xc1 s4.1).f_Head.f_Kind, (rd xc1 s4.1).f_Head.f_Id, (rd xc1 s4.1).f_Head.f_Adv, (rd xc1 s4.1).f_Head.f_Seq, (rd xc1 s4.1).f_Head.f_Sum, (rd xc1 s4.1).f_Head.f_Len⟩ : T_api_Head), (rd xc1 s4.1).f_Flags, t52, (rd xc1 s4.1).f_Bits, t53, t54⟩ : T_api_Lsa)) ((RdS.mono hz27 (sub_t hs38 hs39))) ((RdS.mono hz28 hs39)) (hz29)⟩, ⟨rfl, rfl⟩⟩ rfl rfl) rfl ?_
              rintro _ w180 ⟨L83, A111, c133, rfl, HF394, ho83⟩
              replace H := chk H; obtain ⟨c134, H⟩ := H
              have HF395 := HF394.perm (perm_f (perm_c (List.Perm.refl _)))
              refine eW (oApp (xs := s4.2) (ys := ([(⟨(⟨(rd xc1 s4.1).f_Head.f_Age, (rd xc1 s4.1).f_Head.f_Kind, (rd xc1 s4.1).f_Head.f_Id, (rd xc1 s4.1).f_Head.f_Adv, (rd xc1 s4.1).f_Head.f_Seq, (rd xc1 s4.1).f_Head.f_Sum, (rd xc1 s4.1).f_Head.f_Len⟩ : T_api_Head), (rd xc1 s4.1).f_Flags, t52, (rd xc1 s4.1).f_Bits, t53, t54⟩ : T_api_Lsa)])) (kShr (N33 ++ G) k_T_api_Lsa) HF395 rfl rfl Try.underlying22 Try.underlying22 ti32 rfl (OwnS.lift hr30 (sub_t hs37 (sub_t hs38 hs39))) (srcR shrS ho83.rd HF395 (sub_a sub_h)) c134 rfl) rfl ?_
              rintro _ w181 ⟨L84, A112, c135, rfl, HF396, ho84⟩
              refine sL (fa38_11 rfl) rfl ?_
              have HF397 := HF396.perm (perm_f1 (perm_f1 (perm_c1 (List.Perm.refl _))))
              refine eS (oSt1 (l1 := [.int .i64 4, .int .i64 a0, .int .i64 0, .int .i64 0, .int .i64 0, .int .i64 0, .slice none 0 0, .int .i64 0, .int .i64 0, .slice none 0 0, .slice none 0 0, .slice A112 (s4.2 ++ [(⟨(⟨(rd xc1 s4.1).f_Head.f_Age, (rd xc1 s4.1).f_Head.f_Kind, (rd xc1 s4.1).f_Head.f_Id, (rd xc1 s4.1).f_Head.f_Adv, (rd xc1 s4.1).f_Head.f_Seq, (rd xc1 s4.1).f_Head.f_Sum, (rd xc1 s4.1).f_Head.f_Len⟩ : T_api_Head), (rd xc1 s4.1).f_Flags, t52, (rd xc1 s4.1).f_Bits, t53, t54⟩ : T_api_Lsa)]).length c135]) HF397 rfl rfl ti22 rfl rfl rfl) ?_
              rintro w182 HF398
              refine lEnd (K := fun _ _ => True) ?_
              refine jN (kN (?_))
              refine hK55 _ _ ?_
              refine rRgn [] trivial rfl ?_
              refine sL (bAdd rfl rfl) rfl ?_
              refine sL (mv rfl) rfl ?_
              refine lEnd (K := fun _ _ => True) ?_
              refine kN (?_)
              have hs40 : (N33 ++ G) ⊆ ((L82 ++ (L81 ++ (L80 ++ D8))) ++ (D6 ++ G)) := by rw [hN33, hN32, hN31, hN30]; simp only [List.append_assoc]; exact sub_r
              have HF399 := HF398.sublist (sl_c (sl_a (sl_da (sl_dc (sl_a (sl_a (sl_c (sl_c (sl_c (sl_c (List.Sublist.refl _)))))))))))
              have HF400 := HF399.perm (perm_c1 (perm_f1 (perm_f1 (perm_f1 (perm_c1 (perm_c1 (perm_c1 (List.Perm.refl _))))))))
              have HF401 := HF400.perm (perm_c1 (perm_c1 (perm_f1 (perm_f1 (perm_f1 (perm_c1 (perm_c1 (List.Perm.refl _))))))))
              have HF402 := HF401.perm (perm_c1 (perm_c1 (perm_c1 (perm_f1 (perm_f1 (perm_f1 (perm_c1 (List.Perm.refl _))))))))
              have HF403 := HF402.perm (perm_c1 (perm_c1 (perm_c1 (perm_c1 (perm_f1 (perm_f1 (perm_f1 (List.Perm.refl _))))))))
              have HF404 := HF403.perm (perm_c (perm_c (perm_c (perm_c (perm_c (perm_f (perm_f (List.Perm.refl _))))))))
              have HF405 := HF404.perm (perm_f (perm_c (perm_c (perm_c (perm_c (perm_c (perm_f (List.Perm.refl _))))))))
              have HF406 := HF405.perm (perm_f1 (perm_f1 (perm_c1 (perm_c1 (perm_c1 (perm_c1 (List.Perm.refl _)))))))
              have HF407 := HF406.perm (perm_c (perm_f (perm_f (perm_c (perm_c (perm_c (perm_c (List.Perm.refl _))))))))
              have HF408 := Fits.conv (L' := (L84 ++ (bk g19 38 [.int .i64 4, .int .i64 a0, .int .i64 0, .int .i64 0, .int .i64 0, .int .i64 0, .slice none 0 0, .int .i64 0, .int .i64 0, .slice none 0 0, .slice none 0 0, .slice A112 (s4.2 ++ [(⟨(⟨(rd xc1 s4.1).f_Head.f_Age, (rd xc1 s4.1).f_Head.f_Kind, (rd xc1 s4.1).f_Head.f_Id, (rd xc1 s4.1).f_Head.f_Adv, (rd xc1 s4.1).f_Head.f_Seq, (rd xc1 s4.1).f_Head.f_Sum, (rd xc1 s4.1).f_Head.f_Len⟩ : T_api_Head), (rd xc1 s4.1).f_Flags, t52, (rd xc1 s4.1).f_Bits, t53, t54⟩ : T_api_Lsa)]).length c135] :: (M_ ++ (L58 ++ (bk g3 22 [.slice A_a1 a1.length c_a1] :: (bk g4 3 [.int .i64 4] :: (bk g2 33 [.slice A77 s3.length c93] :: (bk g1 3 [.int .i64 a0] :: ((L82 ++ (L81 ++ (L80 ++ D8))) ++ (D6 ++ F))))))))))) HF407 (by rw [hN33, hN32, hN31, hN30]; simp only [List.append_assoc])
              exact ofEnv (fun a hE => ⟨_, (Option.some.inj H).symm, ⟨(L82 ++ (L81 ++ (L80 ++ D8))), _, _, L84, hE.keep (Keep.cons rfl (Keep.cons rfl (Keep.cons rfl (Keep.cons rfl (Keep.cons rfl (Keep.cons rfl (Keep.cons rfl (Keep.cons rfl (Keep.nil))))))))), HF408, (OwnS.lift ho84 hs40)⟩⟩)
          · refine qL rfl gd0 (ld rfl Try.underlying30 rfl (HF373.box (mem_h) rfl)) rfl HF374 ?_
            refine h2 2 4 (by kernel_rfl) rfl rfl ?_ ?_
            · replace H := bnd H; obtain ⟨t52, J55, H⟩ := H
              refine qCall rfl gd0 isf19 rfl rfl rfl (f_slices_Clone_api_Link_api_Link.ok (a0 := (rd xc1 s4.1).f_Links) (sub_c (sub_a (sub_c (sub_a (sub_a (sub_c (sub_c (sub_c (sub_c (sub_n hG)))))))))) J55 HF373 (sub_c (sub_a (sub_c (sub_a (sub_a (sub_c (sub_c (sub_c (sub_c (sub_t (sub_t hs28 hs36) (sub_n hG))))))))))) hr31) ?_
              rintro _ w174 ⟨A108, c130, L80, rfl, HF375, ho80⟩
              have HF376 := HF375.sublist (sl_da (sl_dc (sl_a (sl_c (sl_a (sl_a (sl_c (sl_c (sl_c (sl_c (List.Sublist.refl _)))))))))))
              refine ⟨_, rfl, HF376, ?_⟩
              refine h1 4 (by kernel_rfl) rfl ?_
              refine qL rfl gd0 (ld rfl Try.underlying29 rfl (HF375.box (mem_a mem_h) rfl)) rfl HF376 ?_
              refine hTake 9 rfl (by kernel_rfl) (pThen (pBlock (pThen (pThen (pBlock (pThen (pThen (pBlock (pThen pNo))))))))) (fun w_ hS_ => fa32_2 rfl) HF376 rfl rfl ?_
              refine h1 5 (by kernel_rfl) rfl ?_
              replace H := bnd H; obtain ⟨t53, J56, H⟩ := H
              refine qCall rfl gd0 isf20 rfl rfl rfl (f_slices_Clone_int_int.ok (a0 := (rd xc1 s4.1).f_Routers) (sub_a (sub_c (sub_a (sub_c (sub_a (sub_a (sub_c (sub_c (sub_c (sub_c (sub_n hG))))))))))) J56 HF375 (sub_a (sub_c (sub_a (sub_c (sub_a (sub_a (sub_c (sub_c (sub_c (sub_c (sub_t (sub_t hs28 hs36) (sub_n hG)))))))))))) hr32) ?_
              rintro _ w175 ⟨A109, c131, L81, rfl, HF377, ho81⟩
              have HF378 := HF377.sublist (sl_da (sl_da (sl_dc (sl_a (sl_c (sl_a (sl_a (sl_c (sl_c (sl_c (sl_c (List.Sublist.refl _))))))))))))
              refine ⟨_, rfl, HF378, ?_⟩
              refine h1 8 (by kernel_rfl) rfl ?_
              replace H := bnd H; obtain ⟨t54, J57, H⟩ := H
              refine qCall rfl gd0 isf21 rfl rfl rfl (f_slices_Clone_api_Vert_api_Vert.ok (a0 := (rd xc1 s4.1).f_Verts) (sub_a (sub_a (sub_c (sub_a (sub_c (sub_a (sub_a (sub_c (sub_c (sub_c (sub_c (sub_n hG)))))))))))) J57 HF377 (sub_a (sub_a (sub_c (sub_a (sub_c (sub_a (sub_a (sub_c (sub_c (sub_c (sub_c (sub_t (sub_t hs28 hs36) (sub_n hG))))))))))))) hr33) ?_
              rintro _ w176 ⟨A110, c132, L82, rfl, HF379, ho82⟩
              have HF380 := HF379.sublist (sl_da (sl_da (sl_da (sl_dc (sl_a (sl_c (sl_a (sl_a (sl_c (sl_c (sl_c (sl_c (List.Sublist.refl _)))))))))))))
              refine ⟨_, rfl, HF380, ?_⟩
              refine h1 10 (by kernel_rfl) rfl ?_
              have HF381 := HF379.perm (perm_f1 (perm_f1 (perm_f1 (List.Perm.refl _))))
              refine qS rfl gd0 (oSt1 (l1 := [.int .i64 ((rd xc1 s4.1).f_Head.f_Age), .int .i64 ((rd xc1 s4.1).f_Head.f_Kind), .int .i64 ((rd xc1 s4.1).f_Head.f_Id), .int .i64 ((rd xc1 s4.1).f_Head.f_Adv), .int .i64 ((rd xc1 s4.1).f_Head.f_Seq), .int .i64 ((rd xc1 s4.1).f_Head.f_Sum), .int .i64 ((rd xc1 s4.1).f_Head.f_Len), .int .i64 ((rd xc1 s4.1).f_Flags), .slice A108 t52.length c130, .int .i64 ((rd xc1 s4.1).f_Bits), .slice A103 ((rd xc1 s4.1).f_Routers).length c125, .slice A104 ((rd xc1 s4.1).f_Verts).length c126]) HF381 rfl rfl ti28 rfl rfl rfl) ?_
              rintro w177 HF382
              have HF383 := HF382.sublist (sl_dc (sl_da (sl_da (sl_da (sl_a (sl_c (sl_a (sl_a (sl_c (sl_c (sl_c (sl_c (List.Sublist.refl _)))))))))))))
              refine ⟨HF383, ?_⟩
              refine hTake 11 rfl (by kernel_rfl) (pThen (pBlock (pThen (pThen (pBlock (pThen (pThen (pBlock (pThen pNo))))))))) (fun w_ hS_ => fa32_4 rfl) HF383 rfl rfl ?_
              refine h1 12 (by kernel_rfl) rfl ?_
              refine qS rfl gd0 (oSt1 (l1 := [.int .i64 ((rd xc1 s4.1).f_Head.f_Age), .int .i64 ((rd xc1 s4.1).f_Head.f_Kind), .int .i64 ((rd xc1 s4.1).f_Head.f_Id), .int .i64 ((rd xc1 s4.1).f_Head.f_Adv), .int .i64 ((rd xc1 s4.1).f_Head.f_Seq), .int .i64 ((rd xc1 s4.1).f_Head.f_Sum), .int .i64 ((rd xc1 s4.1).f_Head.f_Len), .int .i64 ((rd xc1 s4.1).f_Flags), .slice A108 t52.length c130, .int .i64 ((rd xc1 s4.1).f_Bits), .slice A109 t53.length c131, .slice A104 ((rd xc1 s4.1).f_Verts).length c126]) HF382 rfl rfl ti29 rfl rfl rfl) ?_
              rintro w178 HF384
              have HF385 := HF384.sublist (sl_dc (sl_da (sl_da (sl_da (sl_a (sl_c (sl_a (sl_a (sl_c (sl_c (sl_c (sl_c (List.Sublist.refl _)))))))))))))
              refine ⟨HF385, ?_⟩
              refine hTake 13 rfl (by kernel_rfl) (pThen (pBlock (pThen (pThen (pBlock (pThen (pThen (pBlock (pThen pNo))))))))) (fun w_ hS_ => fa32_5 rfl) HF385 rfl rfl ?_
              refine h1 14 (by kernel_rfl) rfl ?_
              refine qS rfl gd0 (oSt1 (l1 := [.int .i64 ((rd xc1 s4.1).f_Head.f_Age), .int .i64 ((rd xc1 s4.1).f_Head.f_Kind), .int .i64 ((rd xc1 s4.1).f_Head.f_Id), .int .i64 ((rd xc1 s4.1).f_Head.f_Adv), .int .i64 ((rd xc1 s4.1).f_Head.f_Seq), .int .i64 ((rd xc1 s4.1).f_Head.f_Sum), .int .i64 ((rd xc1 s4.1).f_Head.f_Len), .int .i64 ((rd xc1 s4.1).f_Flags), .slice A108 t52.length c130, .int .i64 ((rd xc1 s4.1).f_Bits), .slice A109 t53.length c131, .slice A110 t54.length c132]) HF384 rfl rfl ti30 rfl rfl rfl) ?_
              rintro w179 HF386
              have HF387 := HF386.sublist (sl_dc (sl_da (sl_da (sl_da (sl_a (sl_c (sl_a (sl_a (sl_c (sl_c (sl_c (sl_c (List.Sublist.refl _)))))))))))))
              refine ⟨HF387, ?_⟩
              refine hEnd (by kernel_rfl) ?_
              refine kN (?_)
              refine hK57 _ _ ?_
              refine rRgn [] trivial rfl ?_
              refine sL (fa38_11 rfl) rfl ?_
              refine sL (ld rfl Try.underlying22 rfl (HF386.box (mem_c (mem_a (mem_a (mem_a (mem_a mem_h))))) rfl)) rfl ?_
              refine sL (ldA (cs := [.int .i64 ((rd xc1 s4.1).f_Head.f_Age), .int .i64 ((rd xc1 s4.1).f_Head.f_Kind), .int .i64 ((rd xc1 s4.1).f_Head.f_Id), .int .i64 ((rd xc1 s4.1).f_Head.f_Adv), .int .i64 ((rd xc1 s4.1).f_Head.f_Seq), .int .i64 ((rd xc1 s4.1).f_Head.f_Sum), .int .i64 ((rd xc1 s4.1).f_Head.f_Len), .int .i64 ((rd xc1 s4.1).f_Flags), .slice A108 t52.length c130, .int .i64 ((rd xc1 s4.1).f_Bits), .slice A109 t53.length c131, .slice A110 t54.length c132]) rfl ti32 rfl rfl (HF386.boxes (o := 0) (n := 12) (mem_h) rfl)) rfl ?_
              have HF388 := HF386.perm (pm_c (pm_a (pm_a (perm_f (perm_c (perm_f (perm_f (perm_c (perm_c (perm_c (perm_c (List.Perm.refl _))))))))).symm)))
              obtain ⟨N31, hN31⟩ : ∃ N_, N_ = L80 ++ N30 := ⟨_, rfl⟩
              have HF389 := HF388; rw [← List.append_assoc L80 N30 F, ← hN31] at HF389
              have hs37 : N30 ++ G ⊆ N31 ++ G := frz_s hN31
              have hz27 : RdS k_T_api_Link (N31 ++ G) A108 c130 t52 := RdS.mono ho80.rd (frz_l hN31)
              have HF390 := HF389.perm (pm_c (pm_a (perm_f (perm_c (perm_f (perm_f (perm_c (perm_c (perm_c (perm_c (List.Perm.refl _))))))))).symm))
              obtain ⟨N32, hN32⟩ : ∃ N_, N_ = L81 ++ N31 := ⟨_, rfl⟩
              have HF391 := HF390; rw [← List.append_assoc L81 N31 F, ← hN32] at HF391
              have hs38 : N31 ++ G ⊆ N32 ++ G := frz_s hN32
              have hz28 : RdS (kInt .i64) (N32 ++ G) A109 c131 t53 := RdS.mono ho81.rd (frz_l hN32)
              have HF392 := HF391.perm (pm_c (perm_f (perm_c (perm_f (perm_f (perm_c (perm_c (perm_c (perm_c (List.Perm.refl _))))))))).symm)
              obtain ⟨N33, hN33⟩ : ∃ N_, N_ = L82 ++ N32 := ⟨_, rfl⟩
              have HF393 := HF392; rw [← List.append_assoc L82 N32 F, ← hN33] at HF393
              have hs39 : N32 ++ G ⊆ N33 ++ G := frz_s hN33
              have hz29 : RdS k_T_api_Vert (N33 ++ G) A110 c132 t54 := RdS.mono ho82.rd (frz_l hN33)
              refine eW (oLit (r := [.int .i64 ((rd xc1 s4.1).f_Head.f_Age), .int .i64 ((rd xc1 s4.1).f_Head.f_Kind), .int .i64 ((rd xc1 s4.1).f_Head.f_Id), .int .i64 ((rd xc1 s4.1).f_Head.f_Adv), .int .i64 ((rd xc1 s4.1).f_Head.f_Seq), .int .i64 ((rd xc1 s4.1).f_Head.f_Sum), .int .i64 ((rd xc1 s4.1).f_Head.f_Len), .int .i64 ((rd xc1 s4.1).f_Flags), .slice A108 t52.length c130, .int .i64 ((rd xc1 s4.1).f_Bits), .slice A109 t53.length c131, .slice A110 t54.length c132]) (kShr (N33 ++ G) k_T_api_Lsa) [(⟨(⟨(rd xc1 s4.1).f_Head.f_Age, (rd xc1 s4.1).f_Head.f_Kind, (rd xc1 s4.1).f_Head.f_Id, (rd xc1 s4.1).f_Head.f_Adv, (rd xc1 s4.1).f_Head.f_Seq, (rd xc1 s4.1).f_Head.f_Sum, (rd xc1 s4.1).f_Head.f_Len⟩ : T_api_Head), (rd xc1 s4.1).f_Flags, t52, (rd xc1 s4.1).f_Bits, t53, t54⟩ : T_api_Lsa)] HF393 Try.underlying22 ti32 rfl rfl rfl rfl ⟨[], [], [.int .i64 ((rd xc1 s4.1).f_Head.f_Age), .int .i64 ((rd xc1 s4.1).f_Head.f_Kind), .int .i64 ((rd xc1 s4.1).f_Head.f_Id), .int .i64 ((rd xc1 s4.1).f_Head.f_Adv), .int .i64 ((rd xc1 s4.1).f_Head.f_Seq), .int .i64 ((rd xc1 s4.1).f_Head.f_Sum), .int .i64 ((rd xc1 s4.1).f_Head.f_Len), .int .i64 ((rd xc1 s4.1).f_Flags), .slice A108 t52.length c130, .int .i64 ((rd xc1 s4.1).f_Bits), .slice A109 t53.length c131, .slice A110 t54.length c132], _, rfl, rfl, ⟨rfl, mk_T_api_Lsa (x := (⟨(⟨(rd xc1 s4.1).f_Head.f_Age, (rd xc1 s4.1).f_Head.f_Kind, (rd xc1 s4.1).f_Head.f_Id, (rd xc1 s4.1).f_Head.f_Adv, (rd xc1 s4.1).f_Head.f_Seq, (rd xc1 s4.1).f_Head.f_Sum, (rd xc1 s4.1).f_Head.f_Len⟩ : T_api_Head), (rd xc1 s4.1).f_Flags, t52, (rd xc1 s4.1).f_Bits, t53, t54⟩ : T_api_Lsa)) ((RdS.mono hz27 (sub_t hs38 hs39))) ((RdS.mono hz28 hs39)) (hz29)⟩, ⟨rfl, rfl⟩⟩ rfl rfl) rfl ?_
              rintro _ w180 ⟨L83, A111, c133, rfl, HF394, ho83⟩
              replace H := chk H; obtain ⟨c134, H⟩ := H
              have HF395 := HF394.perm (perm_f (perm_c (List.Perm.refl _)))
              refine eW (oApp (xs := s4.2) (ys := ([(⟨(⟨(rd xc1 s4.1).f_Head.f_Age, (rd xc1 s4.1).f_Head.f_Kind, (rd xc1 s4.1).f_Head.f_Id, (rd xc1 s4.1).f_Head.f_Adv, (rd xc1 s4.1).f_Head.f_Seq, (rd xc1 s4.1).f_Head.f_Sum, (rd xc1 s4.1).f_Head.f_Len⟩ : T_api_Head), (rd xc1 s4.1).f_Flags, t52, (rd xc1 s4.1).f_Bits, t53, t54⟩ : T_api_Lsa)])) (kShr (N33 ++ G) k_T_api_Lsa) HF395 rfl rfl Try.underlying22 Try.underlying22 ti32 rfl (OwnS.lift hr30 (sub_t hs37 (sub_t hs38 hs39))) (srcR shrS ho83.rd HF395 (sub_a sub_h)) c134 rfl) rfl ?_
              rintro _ w181 ⟨L84, A112, c135, rfl, HF396, ho84⟩
              refine sL (fa38_11 rfl) rfl ?_
              have HF397 := HF396.perm (perm_f1 (perm_f1 (perm_c1 (List.Perm.refl _))))
              refine eS (oSt1 (l1 := [.int .i64 4, .int .i64 a0, .int .i64 0, .int .i64 0, .int .i64 0, .int .i64 0, .slice none 0 0, .int .i64 0, .int .i64 0, .slice none 0 0, .slice none 0 0, .slice A112 (s4.2 ++ [(⟨(⟨(rd xc1 s4.1).f_Head.f_Age, (rd xc1 s4.1).f_Head.f_Kind, (rd xc1 s4.1).f_Head.f_Id, (rd xc1 s4.1).f_Head.f_Adv, (rd xc1 s4.1).f_Head.f_Seq, (rd xc1 s4.1).f_Head.f_Sum, (rd xc1 s4.1).f_Head.f_Len⟩ : T_api_Head), (rd xc1 s4.1).f_Flags, t52, (rd xc1 s4.1).f_Bits, t53, t54⟩ : T_api_Lsa)]).length c135]) HF397 rfl rfl ti22 rfl rfl rfl) ?_
              rintro w182 HF398
              refine lEnd (K := fun _ _ => True) ?_
              refine jN (kN (?_))
              refine hK55 _ _ ?_
              refine rRgn [] trivial rfl ?_
              refine sL (bAdd rfl rfl) rfl ?_
              refine sL (mv rfl) rfl ?_
              refine lEnd (K := fun _ _ => True) ?_
              refine kN (?_)
              have hs40 : (N33 ++ G) ⊆ ((L82 ++ (L81 ++ (L80 ++ D8))) ++ (D6 ++ G)) := by rw [hN33, hN32, hN31, hN30]; simp only [List.append_assoc]; exact sub_r
              have HF399 := HF398.sublist (sl_c (sl_a (sl_da (sl_dc (sl_a (sl_a (sl_c (sl_c (sl_c (sl_c (List.Sublist.refl _)))))))))))
              have HF400 := HF399.perm (perm_c1 (perm_f1 (perm_f1 (perm_f1 (perm_c1 (perm_c1 (perm_c1 (List.Perm.refl _))))))))
              have HF401 := HF400.perm (perm_c1 (perm_c1 (perm_f1 (perm_f1 (perm_f1 (perm_c1 (perm_c1 (List.Perm.refl _))))))))
              have HF402 := HF401.perm (perm_c1 (perm_c1 (perm_c1 (perm_f1 (perm_f1 (perm_f1 (perm_c1 (List.Perm.refl _))))))))
              have HF403 := HF402.perm (perm_c1 (perm_c1 (perm_c1 (perm_c1 (perm_f1 (perm_f1 (perm_f1 (List.Perm.refl _))))))))
              have HF404 := HF403.perm (perm_c (perm_c (perm_c (perm_c (perm_c (perm_f (perm_f (List.Perm.refl _))))))))
              have HF405 := HF404.perm (perm_f (perm_c (perm_c (perm_c (perm_c (perm_c (perm_f (List.Perm.refl _))))))))
              have HF406 := HF405.perm (perm_f1 (perm_f1 (perm_c1 (perm_c1 (perm_c1 (perm_c1 (List.Perm.refl _)))))))
              have HF407 := HF406.perm (perm_c (perm_f (perm_f (perm_c (perm_c (perm_c (perm_c (List.Perm.refl _))))))))
              have HF408 := Fits.conv (L' := (L84 ++ (bk g19 38 [.int .i64 4, .int .i64 a0, .int .i64 0, .int .i64 0, .int .i64 0, .int .i64 0, .slice none 0 0, .int .i64 0, .int .i64 0, .slice none 0 0, .slice none 0 0, .slice A112 (s4.2 ++ [(⟨(⟨(rd xc1 s4.1).f_Head.f_Age, (rd xc1 s4.1).f_Head.f_Kind, (rd xc1 s4.1).f_Head.f_Id, (rd xc1 s4.1).f_Head.f_Adv, (rd xc1 s4.1).f_Head.f_Seq, (rd xc1 s4.1).f_Head.f_Sum, (rd xc1 s4.1).f_Head.f_Len⟩ : T_api_Head), (rd xc1 s4.1).f_Flags, t52, (rd xc1 s4.1).f_Bits, t53, t54⟩ : T_api_Lsa)]).length c135] :: (M_ ++ (L58 ++ (bk g3 22 [.slice A_a1 a1.length c_a1] :: (bk g4 3 [.int .i64 4] :: (bk g2 33 [.slice A77 s3.length c93] :: (bk g1 3 [.int .i64 a0] :: ((L82 ++ (L81 ++ (L80 ++ D8))) ++ (D6 ++ F))))))))))) HF407 (by rw [hN33, hN32, hN31, hN30]; simp only [List.append_assoc])
              exact ofEnv (fun a hE => ⟨_, (Option.some.inj H).symm, ⟨(L82 ++ (L81 ++ (L80 ++ D8))), _, _, L84, hE.keep (Keep.cons rfl (Keep.cons rfl (Keep.cons rfl (Keep.cons rfl (Keep.cons rfl (Keep.cons rfl (Keep.cons rfl (Keep.cons rfl (Keep.nil))))))))), HF408, (OwnS.lift ho84 hs40)⟩⟩)
            · refine qL rfl gd0 (ld rfl Try.underlying29 rfl (HF373.box (mem_h) rfl)) rfl HF374 ?_
              refine h1 2 (by kernel_rfl) rfl ?_
              replace H := bnd H; obtain ⟨t52, J55, H⟩ := H
              refine qCall rfl gd0 isf19 rfl rfl rfl (f_slices_Clone_api_Link_api_Link.ok (a0 := (rd xc1 s4.1).f_Links) (sub_c (sub_a (sub_c (sub_a (sub_a (sub_c (sub_c (sub_c (sub_c (sub_n hG)))))))))) J55 HF373 (sub_c (sub_a (sub_c (sub_a (sub_a (sub_c (sub_c (sub_c (sub_c (sub_t (sub_t hs28 hs36) (sub_n hG))))))))))) hr31) ?_
              rintro _ w174 ⟨A108, c130, L80, rfl, HF375, ho80⟩
              have HF376 := HF375.sublist (sl_da (sl_dc (sl_a (sl_c (sl_a (sl_a (sl_c (sl_c (sl_c (sl_c (List.Sublist.refl _)))))))))))
              refine ⟨_, rfl, HF376, ?_⟩
              refine hTake 9 rfl (by kernel_rfl) (pThen (pBlock (pThen (pThen (pBlock (pThen (pThen (pBlock (pThen pNo))))))))) (fun w_ hS_ => fa32_2 rfl) HF376 rfl rfl ?_
              refine h1 5 (by kernel_rfl) rfl ?_
              replace H := bnd H; obtain ⟨t53, J56, H⟩ := H
              refine qCall rfl gd0 isf20 rfl rfl rfl (f_slices_Clone_int_int.ok (a0 := (rd xc1 s4.1).f_Routers) (sub_a (sub_c (sub_a (sub_c (sub_a (sub_a (sub_c (sub_c (sub_c (sub_c (sub_n hG))))))))))) J56 HF375 (sub_a (sub_c (sub_a (sub_c (sub_a (sub_a (sub_c (sub_c (sub_c (sub_c (sub_t (sub_t hs28 hs36) (sub_n hG)))))))))))) hr32) ?_
              rintro _ w175 ⟨A109, c131, L81, rfl, HF377, ho81⟩
              have HF378 := HF377.sublist (sl_da (sl_da (sl_dc (sl_a (sl_c (sl_a (sl_a (sl_c (sl_c (sl_c (sl_c (List.Sublist.refl _))))))))))))
              refine ⟨_, rfl, HF378, ?_⟩
              refine h1 8 (by kernel_rfl) rfl ?_
              replace H := bnd H; obtain ⟨t54, J57, H⟩ := H
              refine qCall rfl gd0 isf21 rfl rfl rfl (f_slices_Clone_api_Vert_api_Vert.ok (a0 := (rd xc1 s4.1).f_Verts) (sub_a (sub_a (sub_c (sub_a (sub_c (sub_a (sub_a (sub_c (sub_c (sub_c (sub_c (sub_n hG)))))))))))) J57 HF377 (sub_a (sub_a (sub_c (sub_a (sub_c (sub_a (sub_a (sub_c (sub_c (sub_c (sub_c (sub_t (sub_t hs28 hs36) (sub_n hG))))))))))))) hr33) ?_
              rintro _ w176 ⟨A110, c132, L82, rfl, HF379, ho82⟩
              have HF380 := HF379.sublist (sl_da (sl_da (sl_da (sl_dc (sl_a (sl_c (sl_a (sl_a (sl_c (sl_c (sl_c (sl_c (List.Sublist.refl _)))))))))))))
              refine ⟨_, rfl, HF380, ?_⟩
              refine h1 10 (by kernel_rfl) rfl ?_
              have HF381 := HF379.perm (perm_f1 (perm_f1 (perm_f1 (List.Perm.refl _))))
              refine qS rfl gd0 (oSt1 (l1 := [.int .i64 ((rd xc1 s4.1).f_Head.f_Age), .int .i64 ((rd xc1 s4.1).f_Head.f_Kind), .int .i64 ((rd xc1 s4.1).f_Head.f_Id), .int .i64 ((rd xc1 s4.1).f_Head.f_Adv), .int .i64 ((rd xc1 s4.1).f_Head.f_Seq), .int .i64 ((rd xc1 s4.1).f_Head.f_Sum), .int .i64 ((rd xc1 s4.1).f_Head.f_Len), .int .i64 ((rd xc1 s4.1).f_Flags), .slice A108 t52.length c130, .int .i64 ((rd xc1 s4.1).f_Bits), .slice A103 ((rd xc1 s4.1).f_Routers).length c125, .slice A104 ((rd xc1 s4.1).f_Verts).length c126]) HF381 rfl rfl ti28 rfl rfl rfl) ?_
              rintro w177 HF382
              have HF383 := HF382.sublist (sl_dc (sl_da (sl_da (sl_da (sl_a (sl_c (sl_a (sl_a (sl_c (sl_c (sl_c (sl_c (List.Sublist.refl _)))))))))))))
              refine ⟨HF383, ?_⟩
              refine hTake 11 rfl (by kernel_rfl) (pThen (pBlock (pThen (pThen (pBlock (pThen (pThen (pBlock (pThen pNo))))))))) (fun w_ hS_ => fa32_4 rfl) HF383 rfl rfl ?_
              refine h1 12 (by kernel_rfl) rfl ?_
              refine qS rfl gd0 (oSt1 (l1 := [.int .i64 ((rd xc1 s4.1).f_Head.f_Age), .int .i64 ((rd xc1 s4.1).f_Head.f_Kind), .int .i64 ((rd xc1 s4.1).f_Head.f_Id), .int .i64 ((rd xc1 s4.1).f_Head.f_Adv), .int .i64 ((rd xc1 s4.1).f_Head.f_Seq), .int .i64 ((rd xc1 s4.1).f_Head.f_Sum), .int .i64 ((rd xc1 s4.1).f_Head.f_Len), .int .i64 ((rd xc1 s4.1).f_Flags), .slice A108 t52.length c130, .int .i64 ((rd xc1 s4.1).f_Bits), .slice A109 t53.length c131, .slice A104 ((rd xc1 s4.1).f_Verts).length c126]) HF382 rfl rfl ti29 rfl rfl rfl) ?_
              rintro w178 HF384
              have HF385 := HF384.sublist (sl_dc (sl_da (sl_da (sl_da (sl_a (sl_c (sl_a (sl_a (sl_c (sl_c (sl_c (sl_c (List.Sublist.refl _)))))))))))))
              refine ⟨HF385, ?_⟩
              refine hTake 13 rfl (by kernel_rfl) (pThen (pBlock (pThen (pThen (pBlock (pThen (pThen (pBlock (pThen pNo))))))))) (fun w_ hS_ => fa32_5 rfl) HF385 rfl rfl ?_
              refine h1 14 (by kernel_rfl) rfl ?_
              refine qS rfl gd0 (oSt1 (l1 := [.int .i64 ((rd xc1 s4.1).f_Head.f_Age), .int .i64 ((rd xc1 s4.1).f_Head.f_Kind), .int .i64 ((rd xc1 s4.1).f_Head.f_Id), .int .i64 ((rd xc1 s4.1).f_Head.f_Adv), .int .i64 ((rd xc1 s4.1).f_Head.f_Seq), .int .i64 ((rd xc1 s4.1).f_Head.f_Sum), .int .i64 ((rd xc1 s4.1).f_Head.f_Len), .int .i64 ((rd xc1 s4.1).f_Flags), .slice A108 t52.length c130, .int .i64 ((rd xc1 s4.1).f_Bits), .slice A109 t53.length c131, .slice A110 t54.length c132]) HF384 rfl rfl ti30 rfl rfl rfl) ?_
              rintro w179 HF386
              have HF387 := HF386.sublist (sl_dc (sl_da (sl_da (sl_da (sl_a (sl_c (sl_a (sl_a (sl_c (sl_c (sl_c (sl_c (List.Sublist.refl _)))))))))))))
              refine ⟨HF387, ?_⟩
              refine hEnd (by kernel_rfl) ?_
              refine kN (?_)
              refine hK57 _ _ ?_
              refine rRgn [] trivial rfl ?_
              refine sL (fa38_11 rfl) rfl ?_
              refine sL (ld rfl Try.underlying22 rfl (HF386.box (mem_c (mem_a (mem_a (mem_a (mem_a mem_h))))) rfl)) rfl ?_
              refine sL (ldA (cs := [.int .i64 ((rd xc1 s4.1).f_Head.f_Age), .int .i64 ((rd xc1 s4.1).f_Head.f_Kind), .int .i64 ((rd xc1 s4.1).f_Head.f_Id), .int .i64 ((rd xc1 s4.1).f_Head.f_Adv), .int .i64 ((rd xc1 s4.1).f_Head.f_Seq), .int .i64 ((rd xc1 s4.1).f_Head.f_Sum), .int .i64 ((rd xc1 s4.1).f_Head.f_Len), .int .i64 ((rd xc1 s4.1).f_Flags), .slice A108 t52.length c130, .int .i64 ((rd xc1 s4.1).f_Bits), .slice A109 t53.length c131, .slice A110 t54.length c132]) rfl ti32 rfl rfl (HF386.boxes (o := 0) (n := 12) (mem_h) rfl)) rfl ?_
              have HF388 := HF386.perm (pm_c (pm_a (pm_a (perm_f (perm_c (perm_f (perm_f (perm_c (perm_c (perm_c (perm_c (List.Perm.refl _))))))))).symm)))
              obtain ⟨N31, hN31⟩ : ∃ N_, N_ = L80 ++ N30 := ⟨_, rfl⟩
              have HF389 := HF388; rw [← List.append_assoc L80 N30 F, ← hN31] at HF389
              have hs37 : N30 ++ G ⊆ N31 ++ G := frz_s hN31
              have hz27 : RdS k_T_api_Link (N31 ++ G) A108 c130 t52 := RdS.mono ho80.rd (frz_l hN31)
              have HF390 := HF389.perm (pm_c (pm_a (perm_f (perm_c (perm_f (perm_f (perm_c (perm_c (perm_c (perm_c (List.Perm.refl _))))))))).symm))
              obtain ⟨N32, hN32⟩ : ∃ N_, N_ = L81 ++ N31 := ⟨_, rfl⟩
              have HF391 := HF390; rw [← List.append_assoc L81 N31 F, ← hN32] at HF391
              have hs38 : N31 ++ G ⊆ N32 ++ G := frz_s hN32
              have hz28 : RdS (kInt .i64) (N32 ++ G) A109 c131 t53 := RdS.mono ho81.rd (frz_l hN32)
              have HF392 := HF391.perm (pm_c (perm_f (perm_c (perm_f (perm_f (perm_c (perm_c (perm_c (perm_c (List.Perm.refl _))))))))).symm)
              obtain ⟨N33, hN33⟩ : ∃ N_, N_ = L82 ++ N32 := ⟨_, rfl⟩
              have HF393 := HF392; rw [← List.append_assoc L82 N32 F, ← hN33] at HF393
              have hs39 : N32 ++ G ⊆ N33 ++ G := frz_s hN33
              have hz29 : RdS k_T_api_Vert (N33 ++ G) A110 c132 t54 := RdS.mono ho82.rd (frz_l hN33)
              refine eW (oLit (r := [.int .i64 ((rd xc1 s4.1).f_Head.f_Age), .int .i64 ((rd xc1 s4.1).f_Head.f_Kind), .int .i64 ((rd xc1 s4.1).f_Head.f_Id), .int .i64 ((rd xc1 s4.1).f_Head.f_Adv), .int .i64 ((rd xc1 s4.1).f_Head.f_Seq), .int .i64 ((rd xc1 s4.1).f_Head.f_Sum), .int .i64 ((rd xc1 s4.1).f_Head.f_Len), .int .i64 ((rd xc1 s4.1).f_Flags), .slice A108 t52.length c130, .int .i64 ((rd xc1 s4.1).f_Bits), .slice A109 t53.length c131, .slice A110 t54.length c132]) (kShr (N33 ++ G) k_T_api_Lsa) [(⟨(⟨(rd xc1 s4.1).f_Head.f_Age, (rd xc1 s4.1).f_Head.f_Kind, (rd xc1 s4.1).f_Head.f_Id, (rd xc1 s4.1).f_Head.f_Adv, (rd xc1 s4.1).f_Head.f_Seq, (rd xc1 s4.1).f_Head.f_Sum, (rd xc1 s4.1).f_Head.f_Len⟩ : T_api_Head), (rd xc1 s4.1).f_Flags, t52, (rd xc1 s4.1).f_Bits, t53, t54⟩ : T_api_Lsa)] HF393 Try.underlying22 ti32 rfl rfl rfl rfl ⟨[], [], [.int .i64 ((rd xc1 s4.1).f_Head.f_Age), .int .i64 ((rd xc1 s4.1).f_Head.f_Kind), .int .i64 ((rd xc1 s4.1).f_Head.f_Id), .int .i64 ((rd xc1 s4.1).f_Head.f_Adv), .int .i64 ((rd xc1 s4.1).f_Head.f_Seq), .int .i64 ((rd xc1 s4.1).f_Head.f_Sum), .int .i64 ((rd xc1 s4.1).f_Head.f_Len), .int .i64 ((rd xc1 s4.1).f_Flags), .slice A108 t52.length c130, .int .i64 ((rd xc1 s4.1).f_Bits), .slice A109 t53.length c131, .slice A110 t54.length c132], _, rfl, rfl, ⟨rfl, mk_T_api_Lsa (x := (⟨(⟨(rd xc1 s4.1).f_Head.f_Age, (rd xc1 s4.1).f_Head.f_Kind, (rd xc1 s4.1).f_Head.f_Id, (rd xc1 s4.1).f_Head.f_Adv, (rd xc1 s4.1).f_Head.f_Seq, (rd xc1 s4.1).f_Head.f_Sum, (rd xc1 s4.1).f_Head.f_Len⟩ : T_api_Head), (rd xc1 s4.1).f_Flags, t52, (rd xc1 s4.1).f_Bits, t53, t54⟩ : T_api_Lsa)) ((RdS.mono hz27 (sub_t hs38 hs39))) ((RdS.mono hz28 hs39)) (hz29)⟩, ⟨rfl, rfl⟩⟩ rfl rfl) rfl ?_
              rintro _ w180 ⟨L83, A111, c133, rfl, HF394, ho83⟩
              replace H := chk H; obtain ⟨c134, H⟩ := H
              have HF395 := HF394.perm (perm_f (perm_c (List.Perm.refl _)))
              refine eW (oApp (xs := s4.2) (ys := ([(⟨(⟨(rd xc1 s4.1).f_Head.f_Age, (rd xc1 s4.1).f_Head.f_Kind, (rd xc1 s4.1).f_Head.f_Id, (rd xc1 s4.1).f_Head.f_Adv, (rd xc1 s4.1).f_Head.f_Seq, (rd xc1 s4.1).f_Head.f_Sum, (rd xc1 s4.1).f_Head.f_Len⟩ : T_api_Head), (rd xc1 s4.1).f_Flags, t52, (rd xc1 s4.1).f_Bits, t53, t54⟩ : T_api_Lsa)])) (kShr (N33 ++ G) k_T_api_Lsa) HF395 rfl rfl Try.underlying22 Try.underlying22 ti32 rfl (OwnS.lift hr30 (sub_t hs37 (sub_t hs38 hs39))) (srcR shrS ho83.rd HF395 (sub_a sub_h)) c134 rfl) rfl ?_
              rintro _ w181 ⟨L84, A112, c135, rfl, HF396, ho84⟩
              refine sL (fa38_11 rfl) rfl ?_
              have HF397 := HF396.perm (perm_f1 (perm_f1 (perm_c1 (List.Perm.refl _))))
              refine eS (oSt1 (l1 := [.int .i64 4, .int .i64 a0, .int .i64 0, .int .i64 0, .int .i64 0, .int .i64 0, .slice none 0 0, .int .i64 0, .int .i64 0, .slice none 0 0, .slice none 0 0, .slice A112 (s4.2 ++ [(⟨(⟨(rd xc1 s4.1).f_Head.f_Age, (rd xc1 s4.1).f_Head.f_Kind, (rd xc1 s4.1).f_Head.f_Id, (rd xc1 s4.1).f_Head.f_Adv, (rd xc1 s4.1).f_Head.f_Seq, (rd xc1 s4.1).f_Head.f_Sum, (rd xc1 s4.1).f_Head.f_Len⟩ : T_api_Head), (rd xc1 s4.1).f_Flags, t52, (rd xc1 s4.1).f_Bits, t53, t54⟩ : T_api_Lsa)]).length c135]) HF397 rfl rfl ti22 rfl rfl rfl) ?_
              rintro w182 HF398
              refine lEnd (K := fun _ _ => True) ?_
              refine jN (kN (?_))
              refine hK55 _ _ ?_
              refine rRgn [] trivial rfl ?_
              refine sL (bAdd rfl rfl) rfl ?_
              refine sL (mv rfl) rfl ?_
              refine lEnd (K := fun _ _ => True) ?_
              refine kN (?_)
              have hs40 : (N33 ++ G) ⊆ ((L82 ++ (L81 ++ (L80 ++ D8))) ++ (D6 ++ G)) := by rw [hN33, hN32, hN31, hN30]; simp only [List.append_assoc]; exact sub_r
              have HF399 := HF398.sublist (sl_c (sl_a (sl_da (sl_dc (sl_a (sl_a (sl_c (sl_c (sl_c (sl_c (List.Sublist.refl _)))))))))))
              have HF400 := HF399.perm (perm_c1 (perm_f1 (perm_f1 (perm_f1 (perm_c1 (perm_c1 (perm_c1 (List.Perm.refl _))))))))
              have HF401 := HF400.perm (perm_c1 (perm_c1 (perm_f1 (perm_f1 (perm_f1 (perm_c1 (perm_c1 (List.Perm.refl _))))))))
              have HF402 := HF401.perm (perm_c1 (perm_c1 (perm_c1 (perm_f1 (perm_f1 (perm_f1 (perm_c1 (List.Perm.refl _))))))))
              have HF403 := HF402.perm (perm_c1 (perm_c1 (perm_c1 (perm_c1 (perm_f1 (perm_f1 (perm_f1 (List.Perm.refl _))))))))
              have HF404 := HF403.perm (perm_c (perm_c (perm_c (perm_c (perm_c (perm_f (perm_f (List.Perm.refl _))))))))
              have HF405 := HF404.perm (perm_f (perm_c (perm_c (perm_c (perm_c (perm_c (perm_f (List.Perm.refl _))))))))
              have HF406 := HF405.perm (perm_f1 (perm_f1 (perm_c1 (perm_c1 (perm_c1 (perm_c1 (List.Perm.refl _)))))))
              have HF407 := HF406.perm (perm_c (perm_f (perm_f (perm_c (perm_c (perm_c (perm_c (List.Perm.refl _))))))))
              have HF408 := Fits.conv (L' := (L84 ++ (bk g19 38 [.int .i64 4, .int .i64 a0, .int .i64 0, .int .i64 0, .int .i64 0, .int .i64 0, .slice none 0 0, .int .i64 0, .int .i64 0, .slice none 0 0, .slice none 0 0, .slice A112 (s4.2 ++ [(⟨(⟨(rd xc1 s4.1).f_Head.f_Age, (rd xc1 s4.1).f_Head.f_Kind, (rd xc1 s4.1).f_Head.f_Id, (rd xc1 s4.1).f_Head.f_Adv, (rd xc1 s4.1).f_Head.f_Seq, (rd xc1 s4.1).f_Head.f_Sum, (rd xc1 s4.1).f_Head.f_Len⟩ : T_api_Head), (rd xc1 s4.1).f_Flags, t52, (rd xc1 s4.1).f_Bits, t53, t54⟩ : T_api_Lsa)]).length c135] :: (M_ ++ (L58 ++ (bk g3 22 [.slice A_a1 a1.length c_a1] :: (bk g4 3 [.int .i64 4] :: (bk g2 33 [.slice A77 s3.length c93] :: (bk g1 3 [.int .i64 a0] :: ((L82 ++ (L81 ++ (L80 ++ D8))) ++ (D6 ++ F))))))))))) HF407 (by rw [hN33, hN32, hN31, hN30]; simp only [List.append_assoc])
              exact ofEnv (fun a hE => ⟨_, (Option.some.inj H).symm, ⟨(L82 ++ (L81 ++ (L80 ++ D8))), _, _, L84, hE.keep (Keep.cons rfl (Keep.cons rfl (Keep.cons rfl (Keep.cons rfl (Keep.cons rfl (Keep.cons rfl (Keep.cons rfl (Keep.cons rfl (Keep.nil))))))))), HF408, (OwnS.lift ho84 hs40)⟩⟩)
        · refine qL rfl gd0 (ld rfl Try.underlying29 rfl (HF373.box (mem_h) rfl)) rfl HF374 ?_
          refine h2 1 7 (by kernel_rfl) rfl rfl ?_ ?_
          · refine qL rfl gd0 (ld rfl Try.underlying28 rfl (HF373.box (mem_h) rfl)) rfl HF374 ?_
            refine h2 2 7 (by kernel_rfl) rfl rfl ?_ ?_
            · replace H := bnd H; obtain ⟨t52, J55, H⟩ := H
              refine qCall rfl gd0 isf19 rfl rfl rfl (f_slices_Clone_api_Link_api_Link.ok (a0 := (rd xc1 s4.1).f_Links) (sub_c (sub_a (sub_c (sub_a (sub_a (sub_c (sub_c (sub_c (sub_c (sub_n hG)))))))))) J55 HF373 (sub_c (sub_a (sub_c (sub_a (sub_a (sub_c (sub_c (sub_c (sub_c (sub_t (sub_t hs28 hs36) (sub_n hG))))))))))) hr31) ?_
              rintro _ w174 ⟨A108, c130, L80, rfl, HF375, ho80⟩
              have HF376 := HF375.sublist (sl_da (sl_dc (sl_a (sl_c (sl_a (sl_a (sl_c (sl_c (sl_c (sl_c (List.Sublist.refl _)))))))))))
              refine ⟨_, rfl, HF376, ?_⟩
              refine h2 5 7 (by kernel_rfl) rfl rfl ?_ ?_
              · replace H := bnd H; obtain ⟨t53, J56, H⟩ := H
                refine qCall rfl gd0 isf20 rfl rfl rfl (f_slices_Clone_int_int.ok (a0 := (rd xc1 s4.1).f_Routers) (sub_a (sub_c (sub_a (sub_c (sub_a (sub_a (sub_c (sub_c (sub_c (sub_c (sub_n hG))))))))))) J56 HF375 (sub_a (sub_c (sub_a (sub_c (sub_a (sub_a (sub_c (sub_c (sub_c (sub_c (sub_t (sub_t hs28 hs36) (sub_n hG)))))))))))) hr32) ?_
                rintro _ w175 ⟨A109, c131, L81, rfl, HF377, ho81⟩
                have HF378 := HF377.sublist (sl_da (sl_da (sl_dc (sl_a (sl_c (sl_a (sl_a (sl_c (sl_c (sl_c (sl_c (List.Sublist.refl _))))))))))))
                refine ⟨_, rfl, HF378, ?_⟩
                refine h1 7 (by kernel_rfl) rfl ?_
                refine qL rfl gd0 (ld rfl Try.underlying30 rfl (HF377.box (mem_a (mem_a mem_h)) rfl)) rfl HF378 ?_
                refine hTake 9 rfl (by kernel_rfl) (pThen (pBlock (pThen (pThen (pBlock (pThen (pThen (pBlock (pThen pNo))))))))) (fun w_ hS_ => fa32_2 rfl) HF378 rfl rfl ?_
                refine h1 8 (by kernel_rfl) rfl ?_
                replace H := bnd H; obtain ⟨t54, J57, H⟩ := H
                refine qCall rfl gd0 isf21 rfl rfl rfl (f_slices_Clone_api_Vert_api_Vert.ok (a0 := (rd xc1 s4.1).f_Verts) (sub_a (sub_a (sub_c (sub_a (sub_c (sub_a (sub_a (sub_c (sub_c (sub_c (sub_c (sub_n hG)))))))))))) J57 HF377 (sub_a (sub_a (sub_c (sub_a (sub_c (sub_a (sub_a (sub_c (sub_c (sub_c (sub_c (sub_t (sub_t hs28 hs36) (sub_n hG))))))))))))) hr33) ?_
                rintro _ w176 ⟨A110, c132, L82, rfl, HF379, ho82⟩
                have HF380 := HF379.sublist (sl_da (sl_da (sl_da (sl_dc (sl_a (sl_c (sl_a (sl_a (sl_c (sl_c (sl_c (sl_c (List.Sublist.refl _)))))))))))))
                refine ⟨_, rfl, HF380, ?_⟩
                refine h1 10 (by kernel_rfl) rfl ?_
                have HF381 := HF379.perm (perm_f1 (perm_f1 (perm_f1 (List.Perm.refl _))))
                refine qS rfl gd0 (oSt1 (l1 := [.int .i64 ((rd xc1 s4.1).f_Head.f_Age), .int .i64 ((rd xc1 s4.1).f_Head.f_Kind), .int .i64 ((rd xc1 s4.1).f_Head.f_Id), .int .i64 ((rd xc1 s4.1).f_Head.f_Adv), .int .i64 ((rd xc1 s4.1).f_Head.f_Seq), .int .i64 ((rd xc1 s4.1).f_Head.f_Sum), .int .i64 ((rd xc1 s4.1).f_Head.f_Len), .int .i64 ((rd xc1 s4.1).f_Flags), .slice A108 t52.length c130, .int .i64 ((rd xc1 s4.1).f_Bits), .slice A103 ((rd xc1 s4.1).f_Routers).length c125, .slice A104 ((rd xc1 s4.1).f_Verts).length c126]) HF381 rfl rfl ti28 rfl rfl rfl) ?_
                rintro w177 HF382
                have HF383 := HF382.sublist (sl_dc (sl_da (sl_da (sl_da (sl_a (sl_c (sl_a (sl_a (sl_c (sl_c (sl_c (sl_c (List.Sublist.refl _)))))))))))))
                refine ⟨HF383, ?_⟩
                refine hTake 11 rfl (by kernel_rfl) (pThen (pBlock (pThen (pThen (pBlock (pThen (pThen (pBlock (pThen pNo))))))))) (fun w_ hS_ => fa32_4 rfl) HF383 rfl rfl ?_
                refine h1 12 (by kernel_rfl) rfl ?_
                refine qS rfl gd0 (oSt1 (l1 := [.int .i64 ((rd xc1 s4.1).f_Head.f_Age), .int .i64 ((rd xc1 s4.1).f_Head.f_Kind), .int .i64 ((rd xc1 s4.1).f_Head.f_Id), .int .i64 ((rd xc1 s4.1).f_Head.f_Adv), .int .i64 ((rd xc1 s4.1).f_Head.f_Seq), .int .i64 ((rd xc1 s4.1).f_Head.f_Sum), .int .i64 ((rd xc1 s4.1).f_Head.f_Len), .int .i64 ((rd xc1 s4.1).f_Flags), .slice A108 t52.length c130, .int .i64 ((rd xc1 s4.1).f_Bits), .slice A109 t53.length c131, .slice A104 ((rd xc1 s4.1).f_Verts).length c126]) HF382 rfl rfl ti29 rfl rfl rfl) ?_
                rintro w178 HF384
                have HF385 := HF384.sublist (sl_dc (sl_da (sl_da (sl_da (sl_a (sl_c (sl_a (sl_a (sl_c (sl_c (sl_c (sl_c (List.Sublist.refl _)))))))))))))
                refine ⟨HF385, ?_⟩
                refine hTake 13 rfl (by kernel_rfl) (pThen (pBlock (pThen (pThen (pBlock (pThen (pThen (pBlock (pThen pNo))))))))) (fun w_ hS_ => fa32_5 rfl) HF385 rfl rfl ?_
                refine h1 14 (by kernel_rfl) rfl ?_
                refine qS rfl gd0 (oSt1 (l1 := [.int .i64 ((rd xc1 s4.1).f_Head.f_Age), .int .i64 ((rd xc1 s4.1).f_Head.f_Kind), .int .i64 ((rd xc1 s4.1).f_Head.f_Id), .int .i64 ((rd xc1 s4.1).f_Head.f_Adv), .int .i64 ((rd xc1 s4.1).f_Head.f_Seq), .int .i64 ((rd xc1 s4.1).f_Head.f_Sum), .int .i64 ((rd xc1 s4.1).f_Head.f_Len), .int .i64 ((rd xc1 s4.1).f_Flags), .slice A108 t52.length c130, .int .i64 ((rd xc1 s4.1).f_Bits), .slice A109 t53.length c131, .slice A110 t54.length c132]) HF384 rfl rfl ti30 rfl rfl rfl) ?_
                rintro w179 HF386
                have HF387 := HF386.sublist (sl_dc (sl_da (sl_da (sl_da (sl_a (sl_c (sl_a (sl_a (sl_c (sl_c (sl_c (sl_c (List.Sublist.refl _)))))))))))))
                refine ⟨HF387, ?_⟩
                refine hEnd (by kernel_rfl) ?_
                refine kN (?_)
                refine hK57 _ _ ?_
                refine rRgn [] trivial rfl ?_
                refine sL (fa38_11 rfl) rfl ?_
                refine sL (ld rfl Try.underlying22 rfl (HF386.box (mem_c (mem_a (mem_a (mem_a (mem_a mem_h))))) rfl)) rfl ?_
                refine sL (ldA (cs := [.int .i64 ((rd xc1 s4.1).f_Head.f_Age), .int .i64 ((rd xc1 s4.1).f_Head.f_Kind), .int .i64 ((rd xc1 s4.1).f_Head.f_Id), .int .i64 ((rd xc1 s4.1).f_Head.f_Adv), .int .i64 ((rd xc1 s4.1).f_Head.f_Seq), .int .i64 ((rd xc1 s4.1).f_Head.f_Sum), .int .i64 ((rd xc1 s4.1).f_Head.f_Len), .int .i64 ((rd xc1 s4.1).f_Flags), .slice A108 t52.length c130, .int .i64 ((rd xc1 s4.1).f_Bits), .slice A109 t53.length c131, .slice A110 t54.length c132]) rfl ti32 rfl rfl (HF386.boxes (o := 0) (n := 12) (mem_h) rfl)) rfl ?_
                have HF388 := HF386.perm (pm_c (pm_a (pm_a (perm_f (perm_c (perm_f (perm_f (perm_c (perm_c (perm_c (perm_c (List.Perm.refl _))))))))).symm)))
                obtain ⟨N31, hN31⟩ : ∃ N_, N_ = L80 ++ N30 := ⟨_, rfl⟩
                have HF389 := HF388; rw [← List.append_assoc L80 N30 F, ← hN31] at HF389
                have hs37 : N30 ++ G ⊆ N31 ++ G := frz_s hN31
                have hz27 : RdS k_T_api_Link (N31 ++ G) A108 c130 t52 := RdS.mono ho80.rd (frz_l hN31)
                have HF390 := HF389.perm (pm_c (pm_a (perm_f (perm_c (perm_f (perm_f (perm_c (perm_c (perm_c (perm_c (List.Perm.refl _))))))))).symm))
                obtain ⟨N32, hN32⟩ : ∃ N_, N_ = L81 ++ N31 := ⟨_, rfl⟩
                have HF391 := HF390; rw [← List.append_assoc L81 N31 F, ← hN32] at HF391
                have hs38 : N31 ++ G ⊆ N32 ++ G := frz_s hN32
                have hz28 : RdS (kInt .i64) (N32 ++ G) A109 c131 t53 := RdS.mono ho81.rd (frz_l hN32)
                have HF392 := HF391.perm (pm_c (perm_f (perm_c (perm_f (perm_f (perm_c (perm_c (perm_c (perm_c (List.Perm.refl _))))))))).symm)
                obtain ⟨N33, hN33⟩ : ∃ N_, N_ = L82 ++ N32 := ⟨_, rfl⟩
                have HF393 := HF392; rw [← List.append_assoc L82 N32 F, ← hN33] at HF393
                have hs39 : N32 ++ G ⊆ N33 ++ G := frz_s hN33
                have hz29 : RdS k_T_api_Vert (N33 ++ G) A110 c132 t54 := RdS.mono ho82.rd (frz_l hN33)
                refine eW (oLit (r := [.int .i64 ((rd xc1 s4.1).f_Head.f_Age), .int .i64 ((rd xc1 s4.1).f_Head.f_Kind), .int .i64 ((rd xc1 s4.1).f_Head.f_Id), .int .i64 ((rd xc1 s4.1).f_Head.f_Adv), .int .i64 ((rd xc1 s4.1).f_Head.f_Seq), .int .i64 ((rd xc1 s4.1).f_Head.f_Sum), .int .i64 ((rd xc1 s4.1).f_Head.f_Len), .int .i64 ((rd xc1 s4.1).f_Flags), .slice A108 t52.length c130, .int .i64 ((rd xc1 s4.1).f_Bits), .slice A109 t53.length c131, .slice A110 t54.length c132]) (kShr (N33 ++ G) k_T_api_Lsa) [(⟨(⟨(rd xc1 s4.1).f_Head.f_Age, (rd xc1 s4.1).f_Head.f_Kind, (rd xc1 s4.1).f_Head.f_Id, (rd xc1 s4.1).f_Head.f_Adv, (rd xc1 s4.1).f_Head.f_Seq, (rd xc1 s4.1).f_Head.f_Sum, (rd xc1 s4.1).f_Head.f_Len⟩ : T_api_Head), (rd xc1 s4.1).f_Flags, t52, (rd xc1 s4.1).f_Bits, t53, t54⟩ : T_api_Lsa)] HF393 Try.underlying22 ti32 rfl rfl rfl rfl ⟨[], [], [.int .i64 ((rd xc1 s4.1).f_Head.f_Age), .int .i64 ((rd xc1 s4.1).f_Head.f_Kind), .int .i64 ((rd xc1 s4.1).f_Head.f_Id), .int .i64 ((rd xc1 s4.1).f_Head.f_Adv), .int .i64 ((rd xc1 s4.1).f_Head.f_Seq), .int .i64 ((rd xc1 s4.1).f_Head.f_Sum), .int .i64 ((rd xc1 s4.1).f_Head.f_Len), .int .i64 ((rd xc1 s4.1).f_Flags), .slice A108 t52.length c130, .int .i64 ((rd xc1 s4.1).f_Bits), .slice A109 t53.length c131, .slice A110 t54.length c132], _, rfl, rfl, ⟨rfl, mk_T_api_Lsa (x := (⟨(⟨(rd xc1 s4.1).f_Head.f_Age, (rd xc1 s4.1).f_Head.f_Kind, (rd xc1 s4.1).f_Head.f_Id, (rd xc1 s4.1).f_Head.f_Adv, (rd xc1 s4.1).f_Head.f_Seq, (rd xc1 s4.1).f_Head.f_Sum, (rd xc1 s4.1).f_Head.f_Len⟩ : T_api_Head), (rd xc1 s4.1).f_Flags, t52, (rd xc1 s4.1).f_Bits, t53, t54⟩ : T_api_Lsa)) ((RdS.mono hz27 (sub_t hs38 hs39))) ((RdS.mono hz28 hs39)) (hz29)⟩, ⟨rfl, rfl⟩⟩ rfl rfl) rfl ?_
                rintro _ w180 ⟨L83, A111, c133, rfl, HF394, ho83⟩
                replace H := chk H; obtain ⟨c134, H⟩ := H
                have HF395 := HF394.perm (perm_f (perm_c (List.Perm.refl _)))
                refine eW (oApp (xs := s4.2) (ys := ([(⟨(⟨(rd xc1 s4.1).f_Head.f_Age, (rd xc1 s4.1).f_Head.f_Kind, (rd xc1 s4.1).f_Head.f_Id, (rd xc1 s4.1).f_Head.f_Adv, (rd xc1 s4.1).f_Head.f_Seq, (rd xc1 s4.1).f_Head.f_Sum, (rd xc1 s4.1).f_Head.f_Len⟩ : T_api_Head), (rd xc1 s4.1).f_Flags, t52, (rd xc1 s4.1).f_Bits, t53, t54⟩ : T_api_Lsa)])) (kShr (N33 ++ G) k_T_api_Lsa) HF395 rfl rfl Try.underlying22 Try.underlying22 ti32 rfl (OwnS.lift hr30 (sub_t hs37 (sub_t hs38 hs39))) (srcR shrS ho83.rd HF395 (sub_a sub_h)) c134 rfl) rfl ?_
                rintro _ w181 ⟨L84, A112, c135, rfl, HF396, ho84⟩
                refine sL (fa38_11 rfl) rfl ?_
                have HF397 := HF396.perm (perm_f1 (perm_f1 (perm_c1 (List.Perm.refl _))))
                refine eS (oSt1 (l1 := [.int .i64 4, .int .i64 a0, .int .i64 0, .int .i64 0, .int .i64 0, .int .i64 0, .slice none 0 0, .int .i64 0, .int .i64 0, .slice none 0 0, .slice none 0 0, .slice A112 (s4.2 ++ [(⟨(⟨(rd xc1 s4.1).f_Head.f_Age, (rd xc1 s4.1).f_Head.f_Kind, (rd xc1 s4.1).f_Head.f_Id, (rd xc1 s4.1).f_Head.f_Adv, (rd xc1 s4.1).f_Head.f_Seq, (rd xc1 s4.1).f_Head.f_Sum, (rd xc1 s4.1).f_Head.f_Len⟩ : T_api_Head), (rd xc1 s4.1).f_Flags, t52, (rd xc1 s4.1).f_Bits, t53, t54⟩ : T_api_Lsa)]).length c135]) HF397 rfl rfl ti22 rfl rfl rfl) ?_
                rintro w182 HF398
                refine lEnd (K := fun _ _ => True) ?_
                refine jN (kN (?_))
                refine hK55 _ _ ?_
                refine rRgn [] trivial rfl ?_
                refine sL (bAdd rfl rfl) rfl ?_
                refine sL (mv rfl) rfl ?_
                refine lEnd (K := fun _ _ => True) ?_
                refine kN (?_)
                have hs40 : (N33 ++ G) ⊆ ((L82 ++ (L81 ++ (L80 ++ D8))) ++ (D6 ++ G)) := by rw [hN33, hN32, hN31, hN30]; simp only [List.append_assoc]; exact sub_r
                have HF399 := HF398.sublist (sl_c (sl_a (sl_da (sl_dc (sl_a (sl_a (sl_c (sl_c (sl_c (sl_c (List.Sublist.refl _)))))))))))
                have HF400 := HF399.perm (perm_c1 (perm_f1 (perm_f1 (perm_f1 (perm_c1 (perm_c1 (perm_c1 (List.Perm.refl _))))))))
                have HF401 := HF400.perm (perm_c1 (perm_c1 (perm_f1 (perm_f1 (perm_f1 (perm_c1 (perm_c1 (List.Perm.refl _))))))))
                have HF402 := HF401.perm (perm_c1 (perm_c1 (perm_c1 (perm_f1 (perm_f1 (perm_f1 (perm_c1 (List.Perm.refl _))))))))
                have HF403 := HF402.perm (perm_c1 (perm_c1 (perm_c1 (perm_c1 (perm_f1 (perm_f1 (perm_f1 (List.Perm.refl _))))))))
                have HF404 := HF403.perm (perm_c (perm_c (perm_c (perm_c (perm_c (perm_f (perm_f (List.Perm.refl _))))))))
                have HF405 := HF404.perm (perm_f (perm_c (perm_c (perm_c (perm_c (perm_c (perm_f (List.Perm.refl _))))))))
                have HF406 := HF405.perm (perm_f1 (perm_f1 (perm_c1 (perm_c1 (perm_c1 (perm_c1 (List.Perm.refl _)))))))
                have HF407 := HF406.perm (perm_c (perm_f (perm_f (perm_c (perm_c (perm_c (perm_c (List.Perm.refl _))))))))
                have HF408 := Fits.conv (L' := (L84 ++ (bk g19 38 [.int .i64 4, .int .i64 a0, .int .i64 0, .int .i64 0, .int .i64 0, .int .i64 0, .slice none 0 0, .int .i64 0, .int .i64 0, .slice none 0 0, .slice none 0 0, .slice A112 (s4.2 ++ [(⟨(⟨(rd xc1 s4.1).f_Head.f_Age, (rd xc1 s4.1).f_Head.f_Kind, (rd xc1 s4.1).f_Head.f_Id, (rd xc1 s4.1).f_Head.f_Adv, (rd xc1 s4.1).f_Head.f_Seq, (rd xc1 s4.1).f_Head.f_Sum, (rd xc1 s4.1).f_Head.f_Len⟩ : T_api_Head), (rd xc1 s4.1).f_Flags, t52, (rd xc1 s4.1).f_Bits, t53, t54⟩ : T_api_Lsa)]).length c135] :: (M_ ++ (L58 ++ (bk g3 22 [.slice A_a1 a1.length c_a1] :: (bk g4 3 [.int .i64 4] :: (bk g2 33 [.slice A77 s3.length c93] :: (bk g1 3 [.int .i64 a0] :: ((L82 ++ (L81 ++ (L80 ++ D8))) ++ (D6 ++ F))))))))))) HF407 (by rw [hN33, hN32, hN31, hN30]; simp only [List.append_assoc])
                exact ofEnv (fun a hE => ⟨_, (Option.some.inj H).symm, ⟨(L82 ++ (L81 ++ (L80 ++ D8))), _, _, L84, hE.keep (Keep.cons rfl (Keep.cons rfl (Keep.cons rfl (Keep.cons rfl (Keep.cons rfl (Keep.cons rfl (Keep.cons rfl (Keep.cons rfl (Keep.nil))))))))), HF408, (OwnS.lift ho84 hs40)⟩⟩)
              · refine qL rfl gd0 (ld rfl Try.underlying30 rfl (HF375.box (mem_a mem_h) rfl)) rfl HF376 ?_
                refine hTake 9 rfl (by kernel_rfl) (pThen (pBlock (pThen (pThen (pBlock (pThen (pThen (pBlock (pThen pNo))))))))) (fun w_ hS_ => fa32_2 rfl) HF376 rfl rfl ?_
                refine h1 5 (by kernel_rfl) rfl ?_
                replace H := bnd H; obtain ⟨t53, J56, H⟩ := H
                refine qCall rfl gd0 isf20 rfl rfl rfl (f_slices_Clone_int_int.ok (a0 := (rd xc1 s4.1).f_Routers) (sub_a (sub_c (sub_a (sub_c (sub_a (sub_a (sub_c (sub_c (sub_c (sub_c (sub_n hG))))))))))) J56 HF375 (sub_a (sub_c (sub_a (sub_c (sub_a (sub_a (sub_c (sub_c (sub_c (sub_c (sub_t (sub_t hs28 hs36) (sub_n hG)))))))))))) hr32) ?_
                rintro _ w175 ⟨A109, c131, L81, rfl, HF377, ho81⟩
                have HF378 := HF377.sublist (sl_da (sl_da (sl_dc (sl_a (sl_c (sl_a (sl_a (sl_c (sl_c (sl_c (sl_c (List.Sublist.refl _))))))))))))
                refine ⟨_, rfl, HF378, ?_⟩
                refine h1 8 (by kernel_rfl) rfl ?_
                replace H := bnd H; obtain ⟨t54, J57, H⟩ := H
                refine qCall rfl gd0 isf21 rfl rfl rfl (f_slices_Clone_api_Vert_api_Vert.ok (a0 := (rd xc1 s4.1).f_Verts) (sub_a (sub_a (sub_c (sub_a (sub_c (sub_a (sub_a (sub_c (sub_c (sub_c (sub_c (sub_n hG)))))))))))) J57 HF377 (sub_a (sub_a (sub_c (sub_a (sub_c (sub_a (sub_a (sub_c (sub_c (sub_c (sub_c (sub_t (sub_t hs28 hs36) (sub_n hG))))))))))))) hr33) ?_
                rintro _ w176 ⟨A110, c132, L82, rfl, HF379, ho82⟩
                have HF380 := HF379.sublist (sl_da (sl_da (sl_da (sl_dc (sl_a (sl_c (sl_a (sl_a (sl_c (sl_c (sl_c (sl_c (List.Sublist.refl _)))))))))))))
                refine ⟨_, rfl, HF380, ?_⟩
                refine h1 10 (by kernel_rfl) rfl ?_
                have HF381 := HF379.perm (perm_f1 (perm_f1 (perm_f1 (List.Perm.refl _))))
                refine qS rfl gd0 (oSt1 (l1 := [.int .i64 ((rd xc1 s4.1).f_Head.f_Age), .int .i64 ((rd xc1 s4.1).f_Head.f_Kind), .int .i64 ((rd xc1 s4.1).f_Head.f_Id), .int .i64 ((rd xc1 s4.1).f_Head.f_Adv), .int .i64 ((rd xc1 s4.1).f_Head.f_Seq), .int .i64 ((rd xc1 s4.1).f_Head.f_Sum), .int .i64 ((rd xc1 s4.1).f_Head.f_Len), .int .i64 ((rd xc1 s4.1).f_Flags), .slice A108 t52.length c130, .int .i64 ((rd xc1 s4.1).f_Bits), .slice A103 ((rd xc1 s4.1).f_Routers).length c125, .slice A104 ((rd xc1 s4.1).f_Verts).length c126]) HF381 rfl rfl ti28 rfl rfl rfl) ?_
                rintro w177 HF382
                have HF383 := HF382.sublist (sl_dc (sl_da (sl_da (sl_da (sl_a (sl_c (sl_a (sl_a (sl_c (sl_c (sl_c (sl_c (List.Sublist.refl _)))))))))))))
                refine ⟨HF383, ?_⟩
                refine hTake 11 rfl (by kernel_rfl) (pThen (pBlock (pThen (pThen (pBlock (pThen (pThen (pBlock (pThen pNo))))))))) (fun w_ hS_ => fa32_4 rfl) HF383 rfl rfl ?_
                refine h1 12 (by kernel_rfl) rfl ?_
                refine qS rfl gd0 (oSt1 (l1 := [.int .i64 ((rd xc1 s4.1).f_Head.f_Age), .int .i64 ((rd xc1 s4.1).f_Head.f_Kind), .int .i64 ((rd xc1 s4.1).f_Head.f_Id), .int .i64 ((rd xc1 s4.1).f_Head.f_Adv), .int .i64 ((rd xc1 s4.1).f_Head.f_Seq), .int .i64 ((rd xc1 s4.1).f_Head.f_Sum), .int .i64 ((rd xc1 s4.1).f_Head.f_Len), .int .i64 ((rd xc1 s4.1).f_Flags), .slice A108 t52.length c130, .int .i64 ((rd xc1 s4.1).f_Bits), .slice A109 t53.length c131, .slice A104 ((rd xc1 s4.1).f_Verts).length c126]) HF382 rfl rfl ti29 rfl rfl rfl) ?_
                rintro w178 HF384
                have HF385 := HF384.sublist (sl_dc (sl_da (sl_da (sl_da (sl_a (sl_c (sl_a (sl_a (sl_c (sl_c (sl_c (sl_c (List.Sublist.refl _)))))))))))))
                refine ⟨HF385, ?_⟩
                refine hTake 13 rfl (by kernel_rfl) (pThen (pBlock (pThen (pThen (pBlock (pThen (pThen (pBlock (pThen pNo))))))))) (fun w_ hS_ => fa32_5 rfl) HF385 rfl rfl ?_
                refine h1 14 (by kernel_rfl) rfl ?_
                refine qS rfl gd0 (oSt1 (l1 := [.int .i64 ((rd xc1 s4.1).f_Head.f_Age), .int .i64 ((rd xc1 s4.1).f_Head.f_Kind), .int .i64 ((rd xc1 s4.1).f_Head.f_Id), .int .i64 ((rd xc1 s4.1).f_Head.f_Adv), .int .i64 ((rd xc1 s4.1).f_Head.f_Seq), .int .i64 ((rd xc1 s4.1).f_Head.f_Sum), .int .i64 ((rd xc1 s4.1).f_Head.f_Len), .int .i64 ((rd xc1 s4.1).f_Flags), .slice A108 t52.length c130, .int .i64 ((rd xc1 s4.1).f_Bits), .slice A109 t53.length c131, .slice A110 t54.length c132]) HF384 rfl rfl ti30 rfl rfl rfl) ?_
                rintro w179 HF386
                have HF387 := HF386.sublist (sl_dc (sl_da (sl_da (sl_da (sl_a (sl_c (sl_a (sl_a (sl_c (sl_c (sl_c (sl_c (List.Sublist.refl _)))))))))))))
                refine ⟨HF387, ?_⟩
                refine hEnd (by kernel_rfl) ?_
                refine kN (?_)
                refine hK57 _ _ ?_
                refine rRgn [] trivial rfl ?_
                refine sL (fa38_11 rfl) rfl ?_
                refine sL (ld rfl Try.underlying22 rfl (HF386.box (mem_c (mem_a (mem_a (mem_a (mem_a mem_h))))) rfl)) rfl ?_
                refine sL (ldA (cs := [.int .i64 ((rd xc1 s4.1).f_Head.f_Age), .int .i64 ((rd xc1 s4.1).f_Head.f_Kind), .int .i64 ((rd xc1 s4.1).f_Head.f_Id), .int .i64 ((rd xc1 s4.1).f_Head.f_Adv), .int .i64 ((rd xc1 s4.1).f_Head.f_Seq), .int .i64 ((rd xc1 s4.1).f_Head.f_Sum), .int .i64 ((rd xc1 s4.1).f_Head.f_Len), .int .i64 ((rd xc1 s4.1).f_Flags), .slice A108 t52.length c130, .int .i64 ((rd xc1 s4.1).f_Bits), .slice A109 t53.length c131, .slice A110 t54.length c132]) rfl ti32 rfl rfl (HF386.boxes (o := 0) (n := 12) (mem_h) rfl)) rfl ?_
                have HF388 := HF386.perm (pm_c (pm_a (pm_a (perm_f (perm_c (perm_f (perm_f (perm_c (perm_c (perm_c (perm_c (List.Perm.refl _))))))))).symm)))
                obtain ⟨N31, hN31⟩ : ∃ N_, N_ = L80 ++ N30 := ⟨_, rfl⟩
                have HF389 := HF388; rw [← List.append_assoc L80 N30 F, ← hN31] at HF389
                have hs37 : N30 ++ G ⊆ N31 ++ G := frz_s hN31
                have hz27 : RdS k_T_api_Link (N31 ++ G) A108 c130 t52 := RdS.mono ho80.rd (frz_l hN31)
                have HF390 := HF389.perm (pm_c (pm_a (perm_f (perm_c (perm_f (perm_f (perm_c (perm_c (perm_c (perm_c (List.Perm.refl _))))))))).symm))
                obtain ⟨N32, hN32⟩ : ∃ N_, N_ = L81 ++ N31 := ⟨_, rfl⟩
                have HF391 := HF390; rw [← List.append_assoc L81 N31 F, ← hN32] at HF391
                have hs38 : N31 ++ G ⊆ N32 ++ G := frz_s hN32
                have hz28 : RdS (kInt .i64) (N32 ++ G) A109 c131 t53 := RdS.mono ho81.rd (frz_l hN32)
                have HF392 := HF391.perm (pm_c (perm_f (perm_c (perm_f (perm_f (perm_c (perm_c (perm_c (perm_c (List.Perm.refl _))))))))).symm)
                obtain ⟨N33, hN33⟩ : ∃ N_, N_ = L82 ++ N32 := ⟨_, rfl⟩
                have HF393 := HF392; rw [← List.append_assoc L82 N32 F, ← hN33] at HF393
                have hs39 : N32 ++ G ⊆ N33 ++ G := frz_s hN33
                have hz29 : RdS k_T_api_Vert (N33 ++ G) A110 c132 t54 := RdS.mono ho82.rd (frz_l hN33)
                refine eW (oLit (r := [.int .i64 ((rd xc1 s4.1).f_Head.f_Age), .int .i64 ((rd xc1 s4.1).f_Head.f_Kind), .int .i64 ((rd xc1 s4.1).f_Head.f_Id), .int .i64 ((rd xc1 s4.1).f_Head.f_Adv), .int .i64 ((rd xc1 s4.1).f_Head.f_Seq), .int .i64 ((rd xc1 s4.1).f_Head.f_Sum), .int .i64 ((rd xc1 s4.1).f_Head.f_Len), .int .i64 ((rd xc1 s4.1).f_Flags), .slice A108 t52.length c130, .int .i64 ((rd xc1 s4.1).f_Bits), .slice A109 t53.length c131, .slice A110 t54.length c132]) (kShr (N33 ++ G) k_T_api_Lsa) [(⟨(⟨(rd xc1 s4.1).f_Head.f_Age, (rd xc1 s4.1).f_Head.f_Kind, (rd xc1 s4.1).f_Head.f_Id, (rd xc1 s4.1).f_Head.f_Adv, (rd xc1 s4.1).f_Head.f_Seq, (rd xc1 s4.1).f_Head.f_Sum, (rd xc1 s4.1).f_Head.f_Len⟩ : T_api_Head), (rd xc1 s4.1).f_Flags, t52, (rd xc1 s4.1).f_Bits, t53, t54⟩ : T_api_Lsa)] HF393 Try.underlying22 ti32 rfl rfl rfl rfl ⟨[], [], [.int .i64 ((rd xc1 s4.1).f_Head.f_Age), .int .i64 ((rd xc1 s4.1).f_Head.f_Kind), .int .i64 ((rd xc1 s4.1).f_Head.f_Id), .int .i64 ((rd xc1 s4.1).f_Head.f_Adv), .int .i64 ((rd xc1 s4.1).f_Head.f_Seq), .int .i64 ((rd xc1 s4.1).f_Head.f_Sum), .int .i64 ((rd xc1 s4.1).f_Head.f_Len), .int .i64 ((rd xc1 s4.1).f_Flags), .slice A108 t52.length c130, .int .i64 ((rd xc1 s4.1).f_Bits), .slice A109 t53.length c131, .slice A110 t54.length c132], _, rfl, rfl, ⟨rfl, mk_T_api_Lsa (x := (⟨(⟨(rd xc1 s4.1).f_Head.f_Age, (rd xc1 s4.1).f_Head.f_Kind, (rd xc1 s4.1).f_Head.f_Id, (rd xc1 s4.1).f_Head.f_Adv, (rd xc1 s4.1).f_Head.f_Seq, (rd xc1 s4.1).f_Head.f_Sum, (rd xc1 s4.1).f_Head.f_Len⟩ : T_api_Head), (rd xc1 s4.1).f_Flags, t52, (rd xc1 s4.1).f_Bits, t53, t54⟩ : T_api_Lsa)) ((RdS.mono hz27 (sub_t hs38 hs39))) ((RdS.mono hz28 hs39)) (hz29)⟩, ⟨rfl, rfl⟩⟩ rfl rfl) rfl ?_
                rintro _ w180 ⟨L83, A111, c133, rfl, HF394, ho83⟩
                replace H := chk H; obtain ⟨c134, H⟩ := H
                have HF395 := HF394.perm (perm_f (perm_c (List.Perm.refl _)))
                refine eW (oApp (xs := s4.2) (ys := ([(⟨(⟨(rd xc1 s4.1).f_Head.f_Age, (rd xc1 s4.1).f_Head.f_Kind, (rd xc1 s4.1).f_Head.f_Id, (rd xc1 s4.1).f_Head.f_Adv, (rd xc1 s4.1).f_Head.f_Seq, (rd xc1 s4.1).f_Head.f_Sum, (rd xc1 s4.1).f_Head.f_Len⟩ : T_api_Head), (rd xc1 s4.1).f_Flags, t52, (rd xc1 s4.1).f_Bits, t53, t54⟩ : T_api_Lsa)])) (kShr (N33 ++ G) k_T_api_Lsa) HF395 rfl rfl Try.underlying22 Try.underlying22 ti32 rfl (OwnS.lift hr30 (sub_t hs37 (sub_t hs38 hs39))) (srcR shrS ho83.rd HF395 (sub_a sub_h)) c134 rfl) rfl ?_
                rintro _ w181 ⟨L84, A112, c135, rfl, HF396, ho84⟩
                refine sL (fa38_11 rfl) rfl ?_
                have HF397 := HF396.perm (perm_f1 (perm_f1 (perm_c1 (List.Perm.refl _))))
                refine eS (oSt1 (l1 := [.int .i64 4, .int .i64 a0, .int .i64 0, .int .i64 0, .int .i64 0, .int .i64 0, .slice none 0 0, .int .i64 0, .int .i64 0, .slice none 0 0, .slice none 0 0, .slice A112 (s4.2 ++ [(⟨(⟨(rd xc1 s4.1).f_Head.f_Age, (rd xc1 s4.1).f_Head.f_Kind, (rd xc1 s4.1).f_Head.f_Id, (rd xc1 s4.1).f_Head.f_Adv, (rd xc1 s4.1).f_Head.f_Seq, (rd xc1 s4.1).f_Head.f_Sum, (rd xc1 s4.1).f_Head.f_Len⟩ : T_api_Head), (rd xc1 s4.1).f_Flags, t52, (rd xc1 s4.1).f_Bits, t53, t54⟩ : T_api_Lsa)]).length c135]) HF397 rfl rfl ti22 rfl rfl rfl) ?_
                rintro w182 HF398
                refine lEnd (K := fun _ _ => True) ?_
                refine jN (kN (?_))
                refine hK55 _ _ ?_
                refine rRgn [] trivial rfl ?_
                refine sL (bAdd rfl rfl) rfl ?_
                refine sL (mv rfl) rfl ?_
                refine lEnd (K := fun _ _ => True) ?_
                refine kN (?_)
                have hs40 : (N33 ++ G) ⊆ ((L82 ++ (L81 ++ (L80 ++ D8))) ++ (D6 ++ G)) := by rw [hN33, hN32, hN31, hN30]; simp only [List.append_assoc]; exact sub_r
                have HF399 := HF398.sublist (sl_c (sl_a (sl_da (sl_dc (sl_a (sl_a (sl_c (sl_c (sl_c (sl_c (List.Sublist.refl _)))))))))))
                have HF400 := HF399.perm (perm_c1 (perm_f1 (perm_f1 (perm_f1 (perm_c1 (perm_c1 (perm_c1 (List.Perm.refl _))))))))
                have HF401 := HF400.perm (perm_c1 (perm_c1 (perm_f1 (perm_f1 (perm_f1 (perm_c1 (perm_c1 (List.Perm.refl _))))))))
                have HF402 := HF401.perm (perm_c1 (perm_c1 (perm_c1 (perm_f1 (perm_f1 (perm_f1 (perm_c1 (List.Perm.refl _))))))))
                have HF403 := HF402.perm (perm_c1 (perm_c1 (perm_c1 (perm_c1 (perm_f1 (perm_f1 (perm_f1 (List.Perm.refl _))))))))
                have HF404 := HF403.perm (perm_c (perm_c (perm_c (perm_c (perm_c (perm_f (perm_f (List.Perm.refl _))))))))
                have HF405 := HF404.perm (perm_f (perm_c (perm_c (perm_c (perm_c (perm_c (perm_f (List.Perm.refl _))))))))
                have HF406 := HF405.perm (perm_f1 (perm_f1 (perm_c1 (perm_c1 (perm_c1 (perm_c1 (List.Perm.refl _)))))))
                have HF407 := HF406.perm (perm_c (perm_f (perm_f (perm_c (perm_c (perm_c (perm_c (List.Perm.refl _))))))))
                have HF408 := Fits.conv (L' := (L84 ++ (bk g19 38 [.int .i64 4, .int .i64 a0, .int .i64 0, .int .i64 0, .int .i64 0, .int .i64 0, .slice none 0 0, .int .i64 0, .int .i64 0, .slice none 0 0, .slice none 0 0, .slice A112 (s4.2 ++ [(⟨(⟨(rd xc1 s4.1).f_Head.f_Age, (rd xc1 s4.1).f_Head.f_Kind, (rd xc1 s4.1).f_Head.f_Id, (rd xc1 s4.1).f_Head.f_Adv, (rd xc1 s4.1).f_Head.f_Seq, (rd xc1 s4.1).f_Head.f_Sum, (rd xc1 s4.1).f_Head.f_Len⟩ : T_api_Head), (rd xc1 s4.1).f_Flags, t52, (rd xc1 s4.1).f_Bits, t53, t54⟩ : T_api_Lsa)]).length c135] :: (M_ ++ (L58 ++ (bk g3 22 [.slice A_a1 a1.length c_a1] :: (bk g4 3 [.int .i64 4] :: (bk g2 33 [.slice A77 s3.length c93] :: (bk g1 3 [.int .i64 a0] :: ((L82 ++ (L81 ++ (L80 ++ D8))) ++ (D6 ++ F))))))))))) HF407 (by rw [hN33, hN32, hN31, hN30]; simp only [List.append_assoc])
                exact ofEnv (fun a hE => ⟨_, (Option.some.inj H).symm, ⟨(L82 ++ (L81 ++ (L80 ++ D8))), _, _, L84, hE.keep (Keep.cons rfl (Keep.cons rfl (Keep.cons rfl (Keep.cons rfl (Keep.cons rfl (Keep.cons rfl (Keep.cons rfl (Keep.cons rfl (Keep.nil))))))))), HF408, (OwnS.lift ho84 hs40)⟩⟩)
            · refine qL rfl gd0 (ld rfl Try.underlying30 rfl (HF373.box (mem_h) rfl)) rfl HF374 ?_
              refine h1 2 (by kernel_rfl) rfl ?_
              replace H := bnd H; obtain ⟨t52, J55, H⟩ := H
              refine qCall rfl gd0 isf19 rfl rfl rfl (f_slices_Clone_api_Link_api_Link.ok (a0 := (rd xc1 s4.1).f_Links) (sub_c (sub_a (sub_c (sub_a (sub_a (sub_c (sub_c (sub_c (sub_c (sub_n hG)))))))))) J55 HF373 (sub_c (sub_a (sub_c (sub_a (sub_a (sub_c (sub_c (sub_c (sub_c (sub_t (sub_t hs28 hs36) (sub_n hG))))))))))) hr31) ?_
              rintro _ w174 ⟨A108, c130, L80, rfl, HF375, ho80⟩
              have HF376 := HF375.sublist (sl_da (sl_dc (sl_a (sl_c (sl_a (sl_a (sl_c (sl_c (sl_c (sl_c (List.Sublist.refl _)))))))))))
              refine ⟨_, rfl, HF376, ?_⟩
              refine hTake 9 rfl (by kernel_rfl) (pThen (pBlock (pThen (pThen (pBlock (pThen (pThen (pBlock (pThen pNo))))))))) (fun w_ hS_ => fa32_2 rfl) HF376 rfl rfl ?_
              refine h1 5 (by kernel_rfl) rfl ?_
              replace H := bnd H; obtain ⟨t53, J56, H⟩ := H
              refine qCall rfl gd0 isf20 rfl rfl rfl (f_slices_Clone_int_int.ok (a0 := (rd xc1 s4.1).f_Routers) (sub_a (sub_c (sub_a (sub_c (sub_a (sub_a (sub_c (sub_c (sub_c (sub_c (sub_n hG))))))))))) J56 HF375 (sub_a (sub_c (sub_a (sub_c (sub_a (sub_a (sub_c (sub_c (sub_c (sub_c (sub_t (sub_t hs28 hs36) (sub_n hG)))))))))))) hr32) ?_
              rintro _ w175 ⟨A109, c131, L81, rfl, HF377, ho81⟩
              have HF378 := HF377.sublist (sl_da (sl_da (sl_dc (sl_a (sl_c (sl_a (sl_a (sl_c (sl_c (sl_c (sl_c (List.Sublist.refl _))))))))))))
              refine ⟨_, rfl, HF378, ?_⟩
              refine h1 8 (by kernel_rfl) rfl ?_
              replace H := bnd H; obtain ⟨t54, J57, H⟩ := H
              refine qCall rfl gd0 isf21 rfl rfl rfl (f_slices_Clone_api_Vert_api_Vert.ok (a0 := (rd xc1 s4.1).f_Verts) (sub_a (sub_a (sub_c (sub_a (sub_c (sub_a (sub_a (sub_c (sub_c (sub_c (sub_c (sub_n hG)))))))))))) J57 HF377 (sub_a (sub_a (sub_c (sub_a (sub_c (sub_a (sub_a (sub_c (sub_c (sub_c (sub_c (sub_t (sub_t hs28 hs36) (sub_n hG))))))))))))) hr33) ?_
              rintro _ w176 ⟨A110, c132, L82, rfl, HF379, ho82⟩
              have HF380 := HF379.sublist (sl_da (sl_da (sl_da (sl_dc (sl_a (sl_c (sl_a (sl_a (sl_c (sl_c (sl_c (sl_c (List.Sublist.refl _)))))))))))))
              refine ⟨_, rfl, HF380, ?_⟩
              refine h1 10 (by kernel_rfl) rfl ?_
              have HF381 := HF379.perm (perm_f1 (perm_f1 (perm_f1 (List.Perm.refl _))))
              refine qS rfl gd0 (oSt1 (l1 := [.int .i64 ((rd xc1 s4.1).f_Head.f_Age), .int .i64 ((rd xc1 s4.1).f_Head.f_Kind), .int .i64 ((rd xc1 s4.1).f_Head.f_Id), .int .i64 ((rd xc1 s4.1).f_Head.f_Adv), .int .i64 ((rd xc1 s4.1).f_Head.f_Seq), .int .i64 ((rd xc1 s4.1).f_Head.f_Sum), .int .i64 ((rd xc1 s4.1).f_Head.f_Len), .int .i64 ((rd xc1 s4.1).f_Flags), .slice A108 t52.length c130, .int .i64 ((rd xc1 s4.1).f_Bits), .slice A103 ((rd xc1 s4.1).f_Routers).length c125, .slice A104 ((rd xc1 s4.1).f_Verts).length c126]) HF381 rfl rfl ti28 rfl rfl rfl) ?_
              rintro w177 HF382
              have HF383 := HF382.sublist (sl_dc (sl_da (sl_da (sl_da (sl_a (sl_c (sl_a (sl_a (sl_c (sl_c (sl_c (sl_c (List.Sublist.refl _)))))))))))))
              refine ⟨HF383, ?_⟩
              refine hTake 11 rfl (by kernel_rfl) (pThen (pBlock (pThen (pThen (pBlock (pThen (pThen (pBlock (pThen pNo))))))))) (fun w_ hS_ => fa32_4 rfl) HF383 rfl rfl ?_
              refine h1 12 (by kernel_rfl) rfl ?_
              refine qS rfl gd0 (oSt1 (l1 := [.int .i64 ((rd xc1 s4.1).f_Head.f_Age), .int .i64 ((rd xc1 s4.1).f_Head.f_Kind), .int .i64 ((rd xc1 s4.1).f_Head.f_Id), .int .i64 ((rd xc1 s4.1).f_Head.f_Adv), .int .i64 ((rd xc1 s4.1).f_Head.f_Seq), .int .i64 ((rd xc1 s4.1).f_Head.f_Sum), .int .i64 ((rd xc1 s4.1).f_Head.f_Len), .int .i64 ((rd xc1 s4.1).f_Flags), .slice A108 t52.length c130, .int .i64 ((rd xc1 s4.1).f_Bits), .slice A109 t53.length c131, .slice A104 ((rd xc1 s4.1).f_Verts).length c126]) HF382 rfl rfl ti29 rfl rfl rfl) ?_
              rintro w178 HF384
              have HF385 := HF384.sublist (sl_dc (sl_da (sl_da (sl_da (sl_a (sl_c (sl_a (sl_a (sl_c (sl_c (sl_c (sl_c (List.Sublist.refl _)))))))))))))
              refine ⟨HF385, ?_⟩
              refine hTake 13 rfl (by kernel_rfl) (pThen (pBlock (pThen (pThen (pBlock (pThen (pThen (pBlock (pThen pNo))))))))) (fun w_ hS_ => fa32_5 rfl) HF385 rfl rfl ?_
              refine h1 14 (by kernel_rfl) rfl ?_
              refine qS rfl gd0 (oSt1 (l1 := [.int .i64 ((rd xc1 s4.1).f_Head.f_Age), .int .i64 ((rd xc1 s4.1).f_Head.f_Kind), .int .i64 ((rd xc1 s4.1).f_Head.f_Id), .int .i64 ((rd xc1 s4.1).f_Head.f_Adv), .int .i64 ((rd xc1 s4.1).f_Head.f_Seq), .int .i64 ((rd xc1 s4.1).f_Head.f_Sum), .int .i64 ((rd xc1 s4.1).f_Head.f_Len), .int .i64 ((rd xc1 s4.1).f_Flags), .slice A108 t52.length c130, .int .i64 ((rd xc1 s4.1).f_Bits), .slice A109 t53.length c131, .slice A110 t54.length c132]) HF384 rfl rfl ti30 rfl rfl rfl) ?_
              rintro w179 HF386
              have HF387 := HF386.sublist (sl_dc (sl_da (sl_da (sl_da (sl_a (sl_c (sl_a (sl_a (sl_c (sl_c (sl_c (sl_c (List.Sublist.refl _)))))))))))))
              refine ⟨HF387, ?_⟩
              refine hEnd (by kernel_rfl) ?_
              refine kN (?_)
              refine hK57 _ _ ?_
              refine rRgn [] trivial rfl ?_
              refine sL (fa38_11 rfl) rfl ?_
              refine sL (ld rfl Try.underlying22 rfl (HF386.box (mem_c (mem_a (mem_a (mem_a (mem_a mem_h))))) rfl)) rfl ?_
              refine sL (ldA (cs := [.int .i64 ((rd xc1 s4.1).f_Head.f_Age), .int .i64 ((rd xc1 s4.1).f_Head.f_Kind), .int .i64 ((rd xc1 s4.1).f_Head.f_Id), .int .i64 ((rd xc1 s4.1).f_Head.f_Adv), .int .i64 ((rd xc1 s4.1).f_Head.f_Seq), .int .i64 ((rd xc1 s4.1).f_Head.f_Sum), .int .i64 ((rd xc1 s4.1).f_Head.f_Len), .int .i64 ((rd xc1 s4.1).f_Flags), .slice A108 t52.length c130, .int .i64 ((rd xc1 s4.1).f_Bits), .slice A109 t53.length c131, .slice A110 t54.length c132]) rfl ti32 rfl rfl (HF386.boxes (o := 0) (n := 12) (mem_h) rfl)) rfl ?_
              have HF388 := HF386.perm (pm_c (pm_a (pm_a (perm_f (perm_c (perm_f (perm_f (perm_c (perm_c (perm_c (perm_c (List.Perm.refl _))))))))).symm)))
              obtain ⟨N31, hN31⟩ : ∃ N_, N_ = L80 ++ N30 := ⟨_, rfl⟩
              have HF389 := HF388; rw [← List.append_assoc L80 N30 F, ← hN31] at HF389
              have hs37 : N30 ++ G ⊆ N31 ++ G := frz_s hN31
              have hz27 : RdS k_T_api_Link (N31 ++ G) A108 c130 t52 := RdS.mono ho80.rd (frz_l hN31)
              have HF390 := HF389.perm (pm_c (pm_a (perm_f (perm_c (perm_f (perm_f (perm_c (perm_c (perm_c (perm_c (List.Perm.refl _))))))))).symm))
              obtain ⟨N32, hN32⟩ : ∃ N_, N_ = L81 ++ N31 := ⟨_, rfl⟩
              have HF391 := HF390; rw [← List.append_assoc L81 N31 F, ← hN32] at HF391
              have hs38 : N31 ++ G ⊆ N32 ++ G := frz_s hN32
              have hz28 : RdS (kInt .i64) (N32 ++ G) A109 c131 t53 := RdS.mono ho81.rd (frz_l hN32)
              have HF392 := HF391.perm (pm_c (perm_f (perm_c (perm_f (perm_f (perm_c (perm_c (perm_c (perm_c (List.Perm.refl _))))))))).symm)
              obtain ⟨N33, hN33⟩ : ∃ N_, N_ = L82 ++ N32 := ⟨_, rfl⟩
              have HF393 := HF392; rw [← List.append_assoc L82 N32 F, ← hN33] at HF393
              have hs39 : N32 ++ G ⊆ N33 ++ G := frz_s hN33
              have hz29 : RdS k_T_api_Vert (N33 ++ G) A110 c132 t54 := RdS.mono ho82.rd (frz_l hN33)
              refine eW (oLit (r := [.int .i64 ((rd xc1 s4.1).f_Head.f_Age), .int .i64 ((rd xc1 s4.1).f_Head.f_Kind), .int .i64 ((rd xc1 s4.1).f_Head.f_Id), .int .i64 ((rd xc1 s4.1).f_Head.f_Adv), .int .i64 ((rd xc1 s4.1).f_Head.f_Seq), .int .i64 ((rd xc1 s4.1).f_Head.f_Sum), .int .i64 ((rd xc1 s4.1).f_Head.f_Len), .int .i64 ((rd xc1 s4.1).f_Flags), .slice A108 t52.length c130, .int .i64 ((rd xc1 s4.1).f_Bits), .slice A109 t53.length c131, .slice A110 t54.length c132]) (kShr (N33 ++ G) k_T_api_Lsa) [(⟨(⟨(rd xc1 s4.1).f_Head.f_Age, (rd xc1 s4.1).f_Head.f_Kind, (rd xc1 s4.1).f_Head.f_Id, (rd xc1 s4.1).f_Head.f_Adv, (rd xc1 s4.1).f_Head.f_Seq, (rd xc1 s4.1).f_Head.f_Sum, (rd xc1 s4.1).f_Head.f_Len⟩ : T_api_Head), (rd xc1 s4.1).f_Flags, t52, (rd xc1 s4.1).f_Bits, t53, t54⟩ : T_api_Lsa)] HF393 Try.underlying22 ti32 rfl rfl rfl rfl ⟨[], [], [.int .i64 ((rd xc1 s4.1).f_Head.f_Age), .int .i64 ((rd xc1 s4.1).f_Head.f_Kind), .int .i64 ((rd xc1 s4.1).f_Head.f_Id), .int .i64 ((rd xc1 s4.1).f_Head.f_Adv), .int .i64 ((rd xc1 s4.1).f_Head.f_Seq), .int .i64 ((rd xc1 s4.1).f_Head.f_Sum), .int .i64 ((rd xc1 s4.1).f_Head.f_Len), .int .i64 ((rd xc1 s4.1).f_Flags), .slice A108 t52.length c130, .int .i64 ((rd xc1 s4.1).f_Bits), .slice A109 t53.length c131, .slice A110 t54.length c132], _, rfl, rfl, ⟨rfl, mk_T_api_Lsa (x := (⟨(⟨(rd xc1 s4.1).f_Head.f_Age, (rd xc1 s4.1).f_Head.f_Kind, (rd xc1 s4.1).f_Head.f_Id, (rd xc1 s4.1).f_Head.f_Adv, (rd xc1 s4.1).f_Head.f_Seq, (rd xc1 s4.1).f_Head.f_Sum, (rd xc1 s4.1).f_Head.f_Len⟩ : T_api_Head), (rd xc1 s4.1).f_Flags, t52, (rd xc1 s4.1).f_Bits, t53, t54⟩ : T_api_Lsa)) ((RdS.mono hz27 (sub_t hs38 hs39))) ((RdS.mono hz28 hs39)) (hz29)⟩, ⟨rfl, rfl⟩⟩ rfl rfl) rfl ?_
              rintro _ w180 ⟨L83, A111, c133, rfl, HF394, ho83⟩
              replace H := chk H; obtain ⟨c134, H⟩ := H
              have HF395 := HF394.perm (perm_f (perm_c (List.Perm.refl _)))
              refine eW (oApp (xs := s4.2) (ys := ([(⟨(⟨(rd xc1 s4.1).f_Head.f_Age, (rd xc1 s4.1).f_Head.f_Kind, (rd xc1 s4.1).f_Head.f_Id, (rd xc1 s4.1).f_Head.f_Adv, (rd xc1 s4.1).f_Head.f_Seq, (rd xc1 s4.1).f_Head.f_Sum, (rd xc1 s4.1).f_Head.f_Len⟩ : T_api_Head), (rd xc1 s4.1).f_Flags, t52, (rd xc1 s4.1).f_Bits, t53, t54⟩ : T_api_Lsa)])) (kShr (N33 ++ G) k_T_api_Lsa) HF395 rfl rfl Try.underlying22 Try.underlying22 ti32 rfl (OwnS.lift hr30 (sub_t hs37 (sub_t hs38 hs39))) (srcR shrS ho83.rd HF395 (sub_a sub_h)) c134 rfl) rfl ?_
              rintro _ w181 ⟨L84, A112, c135, rfl, HF396, ho84⟩
              refine sL (fa38_11 rfl) rfl ?_
              have HF397 := HF396.perm (perm_f1 (perm_f1 (perm_c1 (List.Perm.refl _))))
              refine eS (oSt1 (l1 := [.int .i64 4, .int .i64 a0, .int .i64 0, .int .i64 0, .int .i64 0, .int .i64 0, .slice none 0 0, .int .i64 0, .int .i64 0, .slice none 0 0, .slice none 0 0, .slice A112 (s4.2 ++ [(⟨(⟨(rd xc1 s4.1).f_Head.f_Age, (rd xc1 s4.1).f_Head.f_Kind, (rd xc1 s4.1).f_Head.f_Id, (rd xc1 s4.1).f_Head.f_Adv, (rd xc1 s4.1).f_Head.f_Seq, (rd xc1 s4.1).f_Head.f_Sum, (rd xc1 s4.1).f_Head.f_Len⟩ : T_api_Head), (rd xc1 s4.1).f_Flags, t52, (rd xc1 s4.1).f_Bits, t53, t54⟩ : T_api_Lsa)]).length c135]) HF397 rfl rfl ti22 rfl rfl rfl) ?_
              rintro w182 HF398
              refine lEnd (K := fun _ _ => True) ?_
              refine jN (kN (?_))
              refine hK55 _ _ ?_
              refine rRgn [] trivial rfl ?_
              refine sL (bAdd rfl rfl) rfl ?_
              refine sL (mv rfl) rfl ?_
              refine lEnd (K := fun _ _ => True) ?_
              refine kN (?_)
              have hs40 : (N33 ++ G) ⊆ ((L82 ++ (L81 ++ (L80 ++ D8))) ++ (D6 ++ G)) := by rw [hN33, hN32, hN31, hN30]; simp only [List.append_assoc]; exact sub_r
              have HF399 := HF398.sublist (sl_c (sl_a (sl_da (sl_dc (sl_a (sl_a (sl_c (sl_c (sl_c (sl_c (List.Sublist.refl _)))))))))))
              have HF400 := HF399.perm (perm_c1 (perm_f1 (perm_f1 (perm_f1 (perm_c1 (perm_c1 (perm_c1 (List.Perm.refl _))))))))
              have HF401 := HF400.perm (perm_c1 (perm_c1 (perm_f1 (perm_f1 (perm_f1 (perm_c1 (perm_c1 (List.Perm.refl _))))))))
              have HF402 := HF401.perm (perm_c1 (perm_c1 (perm_c1 (perm_f1 (perm_f1 (perm_f1 (perm_c1 (List.Perm.refl _))))))))
              have HF403 := HF402.perm (perm_c1 (perm_c1 (perm_c1 (perm_c1 (perm_f1 (perm_f1 (perm_f1 (List.Perm.refl _))))))))
              have HF404 := HF403.perm (perm_c (perm_c (perm_c (perm_c (perm_c (perm_f (perm_f (List.Perm.refl _))))))))
              have HF405 := HF404.perm (perm_f (perm_c (perm_c (perm_c (perm_c (perm_c (perm_f (List.Perm.refl _))))))))
              have HF406 := HF405.perm (perm_f1 (perm_f1 (perm_c1 (perm_c1 (perm_c1 (perm_c1 (List.Perm.refl _)))))))
              have HF407 := HF406.perm (perm_c (perm_f (perm_f (perm_c (perm_c (perm_c (perm_c (List.Perm.refl _))))))))
              have HF408 := Fits.conv (L' := (L84 ++ (bk g19 38 [.int .i64 4, .int .i64 a0, .int .i64 0, .int .i64 0, .int .i64 0, .int .i64 0, .slice none 0 0, .int .i64 0, .int .i64 0, .slice none 0 0, .slice none 0 0, .slice A112 (s4.2 ++ [(⟨(⟨(rd xc1 s4.1).f_Head.f_Age, (rd xc1 s4.1).f_Head.f_Kind, (rd xc1 s4.1).f_Head.f_Id, (rd xc1 s4.1).f_Head.f_Adv, (rd xc1 s4.1).f_Head.f_Seq, (rd xc1 s4.1).f_Head.f_Sum, (rd xc1 s4.1).f_Head.f_Len⟩ : T_api_Head), (rd xc1 s4.1).f_Flags, t52, (rd xc1 s4.1).f_Bits, t53, t54⟩ : T_api_Lsa)]).length c135] :: (M_ ++ (L58 ++ (bk g3 22 [.slice A_a1 a1.length c_a1] :: (bk g4 3 [.int .i64 4] :: (bk g2 33 [.slice A77 s3.length c93] :: (bk g1 3 [.int .i64 a0] :: ((L82 ++ (L81 ++ (L80 ++ D8))) ++ (D6 ++ F))))))))))) HF407 (by rw [hN33, hN32, hN31, hN30]; simp only [List.append_assoc])
              exact ofEnv (fun a hE => ⟨_, (Option.some.inj H).symm, ⟨(L82 ++ (L81 ++ (L80 ++ D8))), _, _, L84, hE.keep (Keep.cons rfl (Keep.cons rfl (Keep.cons rfl (Keep.cons rfl (Keep.cons rfl (Keep.cons rfl (Keep.cons rfl (Keep.cons rfl (Keep.nil))))))))), HF408, (OwnS.lift ho84 hs40)⟩⟩)
          · refine qL rfl gd0 (ld rfl Try.underlying30 rfl (HF373.box (mem_h) rfl)) rfl HF374 ?_
            refine h1 1 (by kernel_rfl) rfl ?_
            refine qL rfl gd0 (ld rfl Try.underlying28 rfl (HF373.box (mem_h) rfl)) rfl HF374 ?_
            refine h1 2 (by kernel_rfl) rfl ?_
            replace H := bnd H; obtain ⟨t52, J55, H⟩ := H
            refine qCall rfl gd0 isf19 rfl rfl rfl (f_slices_Clone_api_Link_api_Link.ok (a0 := (rd xc1 s4.1).f_Links) (sub_c (sub_a (sub_c (sub_a (sub_a (sub_c (sub_c (sub_c (sub_c (sub_n hG)))))))))) J55 HF373 (sub_c (sub_a (sub_c (sub_a (sub_a (sub_c (sub_c (sub_c (sub_c (sub_t (sub_t hs28 hs36) (sub_n hG))))))))))) hr31) ?_
            rintro _ w174 ⟨A108, c130, L80, rfl, HF375, ho80⟩
            have HF376 := HF375.sublist (sl_da (sl_dc (sl_a (sl_c (sl_a (sl_a (sl_c (sl_c (sl_c (sl_c (List.Sublist.refl _)))))))))))
            refine ⟨_, rfl, HF376, ?_⟩
            refine hTake 9 rfl (by kernel_rfl) (pThen (pBlock (pThen (pThen (pBlock (pThen (pThen (pBlock (pThen pNo))))))))) (fun w_ hS_ => fa32_2 rfl) HF376 rfl rfl ?_
            refine h1 5 (by kernel_rfl) rfl ?_
            replace H := bnd H; obtain ⟨t53, J56, H⟩ := H
            refine qCall rfl gd0 isf20 rfl rfl rfl (f_slices_Clone_int_int.ok (a0 := (rd xc1 s4.1).f_Routers) (sub_a (sub_c (sub_a (sub_c (sub_a (sub_a (sub_c (sub_c (sub_c (sub_c (sub_n hG))))))))))) J56 HF375 (sub_a (sub_c (sub_a (sub_c (sub_a (sub_a (sub_c (sub_c (sub_c (sub_c (sub_t (sub_t hs28 hs36) (sub_n hG)))))))))))) hr32) ?_
            rintro _ w175 ⟨A109, c131, L81, rfl, HF377, ho81⟩
            have HF378 := HF377.sublist (sl_da (sl_da (sl_dc (sl_a (sl_c (sl_a (sl_a (sl_c (sl_c (sl_c (sl_c (List.Sublist.refl _))))))))))))
            refine ⟨_, rfl, HF378, ?_⟩
            refine h1 8 (by kernel_rfl) rfl ?_
            replace H := bnd H; obtain ⟨t54, J57, H⟩ := H
            refine qCall rfl gd0 isf21 rfl rfl rfl (f_slices_Clone_api_Vert_api_Vert.ok (a0 := (rd xc1 s4.1).f_Verts) (sub_a (sub_a (sub_c (sub_a (sub_c (sub_a (sub_a (sub_c (sub_c (sub_c (sub_c (sub_n hG)))))))))))) J57 HF377 (sub_a (sub_a (sub_c (sub_a (sub_c (sub_a (sub_a (sub_c (sub_c (sub_c (sub_c (sub_t (sub_t hs28 hs36) (sub_n hG))))))))))))) hr33) ?_
            rintro _ w176 ⟨A110, c132, L82, rfl, HF379, ho82⟩
            have HF380 := HF379.sublist (sl_da (sl_da (sl_da (sl_dc (sl_a (sl_c (sl_a (sl_a (sl_c (sl_c (sl_c (sl_c (List.Sublist.refl _)))))))))))))
            refine ⟨_, rfl, HF380, ?_⟩
            refine h1 10 (by kernel_rfl) rfl ?_
            have HF381 := HF379.perm (perm_f1 (perm_f1 (perm_f1 (List.Perm.refl _))))
            refine qS rfl gd0 (oSt1 (l1 := [.int .i64 ((rd xc1 s4.1).f_Head.f_Age), .int .i64 ((rd xc1 s4.1).f_Head.f_Kind), .int .i64 ((rd xc1 s4.1).f_Head.f_Id), .int .i64 ((rd xc1 s4.1).f_Head.f_Adv), .int .i64 ((rd xc1 s4.1).f_Head.f_Seq), .int .i64 ((rd xc1 s4.1).f_Head.f_Sum), .int .i64 ((rd xc1 s4.1).f_Head.f_Len), .int .i64 ((rd xc1 s4.1).f_Flags), .slice A108 t52.length c130, .int .i64 ((rd xc1 s4.1).f_Bits), .slice A103 ((rd xc1 s4.1).f_Routers).length c125, .slice A104 ((rd xc1 s4.1).f_Verts).length c126]) HF381 rfl rfl ti28 rfl rfl rfl) ?_
            rintro w177 HF382
            have HF383 := HF382.sublist (sl_dc (sl_da (sl_da (sl_da (sl_a (sl_c (sl_a (sl_a (sl_c (sl_c (sl_c (sl_c (List.Sublist.refl _)))))))))))))
            refine ⟨HF383, ?_⟩
            refine hTake 11 rfl (by kernel_rfl) (pThen (pBlock (pThen (pThen (pBlock (pThen (pThen (pBlock (pThen pNo))))))))) (fun w_ hS_ => fa32_4 rfl) HF383 rfl rfl ?_
            refine h1 12 (by kernel_rfl) rfl ?_
            refine qS rfl gd0 (oSt1 (l1 := [.int .i64 ((rd xc1 s4.1).f_Head.f_Age), .int .i64 ((rd xc1 s4.1).f_Head.f_Kind), .int .i64 ((rd xc1 s4.1).f_Head.f_Id), .int .i64 ((rd xc1 s4.1).f_Head.f_Adv), .int .i64 ((rd xc1 s4.1).f_Head.f_Seq), .int .i64 ((rd xc1 s4.1).f_Head.f_Sum), .int .i64 ((rd xc1 s4.1).f_Head.f_Len), .int .i64 ((rd xc1 s4.1).f_Flags), .slice A108 t52.length c130, .int .i64 ((rd xc1 s4.1).f_Bits), .slice A109 t53.length c131, .slice A104 ((rd xc1 s4.1).f_Verts).length c126]) HF382 rfl rfl ti29 rfl rfl rfl) ?_
            rintro w178 HF384
            have HF385 := HF384.sublist (sl_dc (sl_da (sl_da (sl_da (sl_a (sl_c (sl_a (sl_a (sl_c (sl_c (sl_c (sl_c (List.Sublist.refl _)))))))))))))
            refine ⟨HF385, ?_⟩
            refine hTake 13 rfl (by kernel_rfl) (pThen (pBlock (pThen (pThen (pBlock (pThen (pThen (pBlock (pThen pNo))))))))) (fun w_ hS_ => fa32_5 rfl) HF385 rfl rfl ?_
            refine h1 14 (by kernel_rfl) rfl ?_
            refine qS rfl gd0 (oSt1 (l1 := [.int .i64 ((rd xc1 s4.1).f_Head.f_Age), .int .i64 ((rd xc1 s4.1).f_Head.f_Kind), .int .i64 ((rd xc1 s4.1).f_Head.f_Id), .int .i64 ((rd xc1 s4.1).f_Head.f_Adv), .int .i64 ((rd xc1 s4.1).f_Head.f_Seq), .int .i64 ((rd xc1 s4.1).f_Head.f_Sum), .int .i64 ((rd xc1 s4.1).f_Head.f_Len), .int .i64 ((rd xc1 s4.1).f_Flags), .slice A108 t52.length c130, .int .i64 ((rd xc1 s4.1).f_Bits), .slice A109 t53.length c131, .slice A110 t54.length c132]) HF384 rfl rfl ti30 rfl rfl rfl) ?_
            rintro w179 HF386
            have HF387 := HF386.sublist (sl_dc (sl_da (sl_da (sl_da (sl_a (sl_c (sl_a (sl_a (sl_c (sl_c (sl_c (sl_c (List.Sublist.refl _)))))))))))))
            refine ⟨HF387, ?_⟩
            refine hEnd (by kernel_rfl) ?_
            refine kN (?_)
            refine hK57 _ _ ?_
            refine rRgn [] trivial rfl ?_
            refine sL (fa38_11 rfl) rfl ?_
            refine sL (ld rfl Try.underlying22 rfl (HF386.box (mem_c (mem_a (mem_a (mem_a (mem_a mem_h))))) rfl)) rfl ?_
            refine sL (ldA (cs := [.int .i64 ((rd xc1 s4.1).f_Head.f_Age), .int .i64 ((rd xc1 s4.1).f_Head.f_Kind), .int .i64 ((rd xc1 s4.1).f_Head.f_Id), .int .i64 ((rd xc1 s4.1).f_Head.f_Adv), .int .i64 ((rd xc1 s4.1).f_Head.f_Seq), .int .i64 ((rd xc1 s4.1).f_Head.f_Sum), .int .i64 ((rd xc1 s4.1).f_Head.f_Len), .int .i64 ((rd xc1 s4.1).f_Flags), .slice A108 t52.length c130, .int .i64 ((rd xc1 s4.1).f_Bits), .slice A109 t53.length c131, .slice A110 t54.length c132]) rfl ti32 rfl rfl (HF386.boxes (o := 0) (n := 12) (mem_h) rfl)) rfl ?_
            have HF388 := HF386.perm (pm_c (pm_a (pm_a (perm_f (perm_c (perm_f (perm_f (perm_c (perm_c (perm_c (perm_c (List.Perm.refl _))))))))).symm)))
            obtain ⟨N31, hN31⟩ : ∃ N_, N_ = L80 ++ N30 := ⟨_, rfl⟩
            have HF389 := HF388; rw [← List.append_assoc L80 N30 F, ← hN31] at HF389
            have hs37 : N30 ++ G ⊆ N31 ++ G := frz_s hN31
            have hz27 : RdS k_T_api_Link (N31 ++ G) A108 c130 t52 := RdS.mono ho80.rd (frz_l hN31)
            have HF390 := HF389.perm (pm_c (pm_a (perm_f (perm_c (perm_f (perm_f (perm_c (perm_c (perm_c (perm_c (List.Perm.refl _))))))))).symm))
            obtain ⟨N32, hN32⟩ : ∃ N_, N_ = L81 ++ N31 := ⟨_, rfl⟩
            have HF391 := HF390; rw [← List.append_assoc L81 N31 F, ← hN32] at HF391
            have hs38 : N31 ++ G ⊆ N32 ++ G := frz_s hN32
            have hz28 : RdS (kInt .i64) (N32 ++ G) A109 c131 t53 := RdS.mono ho81.rd (frz_l hN32)
            have HF392 := HF391.perm (pm_c (perm_f (perm_c (perm_f (perm_f (perm_c (perm_c (perm_c (perm_c (List.Perm.refl _))))))))).symm)
            obtain ⟨N33, hN33⟩ : ∃ N_, N_ = L82 ++ N32 := ⟨_, rfl⟩
            have HF393 := HF392; rw [← List.append_assoc L82 N32 F, ← hN33] at HF393
            have hs39 : N32 ++ G ⊆ N33 ++ G := frz_s hN33
            have hz29 : RdS k_T_api_Vert (N33 ++ G) A110 c132 t54 := RdS.mono ho82.rd (frz_l hN33)
            refine eW (oLit (r := [.int .i64 ((rd xc1 s4.1).f_Head.f_Age), .int .i64 ((rd xc1 s4.1).f_Head.f_Kind), .int .i64 ((rd xc1 s4.1).f_Head.f_Id), .int .i64 ((rd xc1 s4.1).f_Head.f_Adv), .int .i64 ((rd xc1 s4.1).f_Head.f_Seq), .int .i64 ((rd xc1 s4.1).f_Head.f_Sum), .int .i64 ((rd xc1 s4.1).f_Head.f_Len), .int .i64 ((rd xc1 s4.1).f_Flags), .slice A108 t52.length c130, .int .i64 ((rd xc1 s4.1).f_Bits), .slice A109 t53.length c131, .slice A110 t54.length c132]) (kShr (N33 ++ G) k_T_api_Lsa) [(⟨(⟨(rd xc1 s4.1).f_Head.f_Age, (rd xc1 s4.1).f_Head.f_Kind, (rd xc1 s4.1).f_Head.f_Id, (rd xc1 s4.1).f_Head.f_Adv, (rd xc1 s4.1).f_Head.f_Seq, (rd xc1 s4.1).f_Head.f_Sum, (rd xc1 s4.1).f_Head.f_Len⟩ : T_api_Head), (rd xc1 s4.1).f_Flags, t52, (rd xc1 s4.1).f_Bits, t53, t54⟩ : T_api_Lsa)] HF393 Try.underlying22 ti32 rfl rfl rfl rfl ⟨[], [], [.int .i64 ((rd xc1 s4.1).f_Head.f_Age), .int .i64 ((rd xc1 s4.1).f_Head.f_Kind), .int .i64 ((rd xc1 s4.1).f_Head.f_Id), .int .i64 ((rd xc1 s4.1).f_Head.f_Adv), .int .i64 ((rd xc1 s4.1).f_Head.f_Seq), .int .i64 ((rd xc1 s4.1).f_Head.f_Sum), .int .i64 ((rd xc1 s4.1).f_Head.f_Len), .int .i64 ((rd xc1 s4.1).f_Flags), .slice A108 t52.length c130, .int .i64 ((rd xc1 s4.1).f_Bits), .slice A109 t53.length c131, .slice A110 t54.length c132], _, rfl, rfl, ⟨rfl, mk_T_api_Lsa (x := (⟨(⟨(rd xc1 s4.1).f_Head.f_Age, (rd xc1 s4.1).f_Head.f_Kind, (rd xc1 s4.1).f_Head.f_Id, (rd xc1 s4.1).f_Head.f_Adv, (rd xc1 s4.1).f_Head.f_Seq, (rd xc1 s4.1).f_Head.f_Sum, (rd xc1 s4.1).f_Head.f_Len⟩ : T_api_Head), (rd xc1 s4.1).f_Flags, t52, (rd xc1 s4.1).f_Bits, t53, t54⟩ : T_api_Lsa)) ((RdS.mono hz27 (sub_t hs38 hs39))) ((RdS.mono hz28 hs39)) (hz29)⟩, ⟨rfl, rfl⟩⟩ rfl rfl) rfl ?_
            rintro _ w180 ⟨L83, A111, c133, rfl, HF394, ho83⟩
            replace H := chk H; obtain ⟨c134, H⟩ := H
            have HF395 := HF394.perm (perm_f (perm_c (List.Perm.refl _)))
            refine eW (oApp (xs := s4.2) (ys := ([(⟨(⟨(rd xc1 s4.1).f_Head.f_Age, (rd xc1 s4.1).f_Head.f_Kind, (rd xc1 s4.1).f_Head.f_Id, (rd xc1 s4.1).f_Head.f_Adv, (rd xc1 s4.1).f_Head.f_Seq, (rd xc1 s4.1).f_Head.f_Sum, (rd xc1 s4.1).f_Head.f_Len⟩ : T_api_Head), (rd xc1 s4.1).f_Flags, t52, (rd xc1 s4.1).f_Bits, t53, t54⟩ : T_api_Lsa)])) (kShr (N33 ++ G) k_T_api_Lsa) HF395 rfl rfl Try.underlying22 Try.underlying22 ti32 rfl (OwnS.lift hr30 (sub_t hs37 (sub_t hs38 hs39))) (srcR shrS ho83.rd HF395 (sub_a sub_h)) c134 rfl) rfl ?_
            rintro _ w181 ⟨L84, A112, c135, rfl, HF396, ho84⟩
            refine sL (fa38_11 rfl) rfl ?_
            have HF397 := HF396.perm (perm_f1 (perm_f1 (perm_c1 (List.Perm.refl _))))
            refine eS (oSt1 (l1 := [.int .i64 4, .int .i64 a0, .int .i64 0, .int .i64 0, .int .i64 0, .int .i64 0, .slice none 0 0, .int .i64 0, .int .i64 0, .slice none 0 0, .slice none 0 0, .slice A112 (s4.2 ++ [(⟨(⟨(rd xc1 s4.1).f_Head.f_Age, (rd xc1 s4.1).f_Head.f_Kind, (rd xc1 s4.1).f_Head.f_Id, (rd xc1 s4.1).f_Head.f_Adv, (rd xc1 s4.1).f_Head.f_Seq, (rd xc1 s4.1).f_Head.f_Sum, (rd xc1 s4.1).f_Head.f_Len⟩ : T_api_Head), (rd xc1 s4.1).f_Flags, t52, (rd xc1 s4.1).f_Bits, t53, t54⟩ : T_api_Lsa)]).length c135]) HF397 rfl rfl ti22 rfl rfl rfl) ?_
            rintro w182 HF398
            refine lEnd (K := fun _ _ => True) ?_
            refine jN (kN (?_))
            refine hK55 _ _ ?_
            refine rRgn [] trivial rfl ?_
            refine sL (bAdd rfl rfl) rfl ?_
            refine sL (mv rfl) rfl ?_
            refine lEnd (K := fun _ _ => True) ?_
            refine kN (?_)
            have hs40 : (N33 ++ G) ⊆ ((L82 ++ (L81 ++ (L80 ++ D8))) ++ (D6 ++ G)) := by rw [hN33, hN32, hN31, hN30]; simp only [List.append_assoc]; exact sub_r
            have HF399 := HF398.sublist (sl_c (sl_a (sl_da (sl_dc (sl_a (sl_a (sl_c (sl_c (sl_c (sl_c (List.Sublist.refl _)))))))))))
            have HF400 := HF399.perm (perm_c1 (perm_f1 (perm_f1 (perm_f1 (perm_c1 (perm_c1 (perm_c1 (List.Perm.refl _))))))))
            have HF401 := HF400.perm (perm_c1 (perm_c1 (perm_f1 (perm_f1 (perm_f1 (perm_c1 (perm_c1 (List.Perm.refl _))))))))
            have HF402 := HF401.perm (perm_c1 (perm_c1 (perm_c1 (perm_f1 (perm_f1 (perm_f1 (perm_c1 (List.Perm.refl _))))))))
            have HF403 := HF402.perm (perm_c1 (perm_c1 (perm_c1 (perm_c1 (perm_f1 (perm_f1 (perm_f1 (List.Perm.refl _))))))))
            have HF404 := HF403.perm (perm_c (perm_c (perm_c (perm_c (perm_c (perm_f (perm_f (List.Perm.refl _))))))))
            have HF405 := HF404.perm (perm_f (perm_c (perm_c (perm_c (perm_c (perm_c (perm_f (List.Perm.refl _))))))))
            have HF406 := HF405.perm (perm_f1 (perm_f1 (perm_c1 (perm_c1 (perm_c1 (perm_c1 (List.Perm.refl _)))))))
            have HF407 := HF406.perm (perm_c (perm_f (perm_f (perm_c (perm_c (perm_c (perm_c (List.Perm.refl _))))))))
            have HF408 := Fits.conv (L' := (L84 ++ (bk g19 38 [.int .i64 4, .int .i64 a0, .int .i64 0, .int .i64 0, .int .i64 0, .int .i64 0, .slice none 0 0, .int .i64 0, .int .i64 0, .slice none 0 0, .slice none 0 0, .slice A112 (s4.2 ++ [(⟨(⟨(rd xc1 s4.1).f_Head.f_Age, (rd xc1 s4.1).f_Head.f_Kind, (rd xc1 s4.1).f_Head.f_Id, (rd xc1 s4.1).f_Head.f_Adv, (rd xc1 s4.1).f_Head.f_Seq, (rd xc1 s4.1).f_Head.f_Sum, (rd xc1 s4.1).f_Head.f_Len⟩ : T_api_Head), (rd xc1 s4.1).f_Flags, t52, (rd xc1 s4.1).f_Bits, t53, t54⟩ : T_api_Lsa)]).length c135] :: (M_ ++ (L58 ++ (bk g3 22 [.slice A_a1 a1.length c_a1] :: (bk g4 3 [.int .i64 4] :: (bk g2 33 [.slice A77 s3.length c93] :: (bk g1 3 [.int .i64 a0] :: ((L82 ++ (L81 ++ (L80 ++ D8))) ++ (D6 ++ F))))))))))) HF407 (by rw [hN33, hN32, hN31, hN30]; simp only [List.append_assoc])
            exact ofEnv (fun a hE => ⟨_, (Option.some.inj H).symm, ⟨(L82 ++ (L81 ++ (L80 ++ D8))), _, _, L84, hE.keep (Keep.cons rfl (Keep.cons rfl (Keep.cons rfl (Keep.cons rfl (Keep.cons rfl (Keep.cons rfl (Keep.cons rfl (Keep.cons rfl (Keep.nil))))))))), HF408, (OwnS.lift ho84 hs40)⟩⟩)
        · refine qL rfl gd0 (ld rfl Try.underlying30 rfl (HF373.box (mem_h) rfl)) rfl HF374 ?_
          refine h2 1 4 (by kernel_rfl) rfl rfl ?_ ?_
          · refine qL rfl gd0 (ld rfl Try.underlying28 rfl (HF373.box (mem_h) rfl)) rfl HF374 ?_
            refine h2 2 4 (by kernel_rfl) rfl rfl ?_ ?_
            · replace H := bnd H; obtain ⟨t52, J55, H⟩ := H
              refine qCall rfl gd0 isf19 rfl rfl rfl (f_slices_Clone_api_Link_api_Link.ok (a0 := (rd xc1 s4.1).f_Links) (sub_c (sub_a (sub_c (sub_a (sub_a (sub_c (sub_c (sub_c (sub_c (sub_n hG)))))))))) J55 HF373 (sub_c (sub_a (sub_c (sub_a (sub_a (sub_c (sub_c (sub_c (sub_c (sub_t (sub_t hs28 hs36) (sub_n hG))))))))))) hr31) ?_
              rintro _ w174 ⟨A108, c130, L80, rfl, HF375, ho80⟩
              have HF376 := HF375.sublist (sl_da (sl_dc (sl_a (sl_c (sl_a (sl_a (sl_c (sl_c (sl_c (sl_c (List.Sublist.refl _)))))))))))
              refine ⟨_, rfl, HF376, ?_⟩
              refine h1 4 (by kernel_rfl) rfl ?_
              refine qL rfl gd0 (ld rfl Try.underlying29 rfl (HF375.box (mem_a mem_h) rfl)) rfl HF376 ?_
              refine hTake 9 rfl (by kernel_rfl) (pThen (pBlock (pThen (pThen (pBlock (pThen (pThen (pBlock (pThen pNo))))))))) (fun w_ hS_ => fa32_2 rfl) HF376 rfl rfl ?_
              refine h1 5 (by kernel_rfl) rfl ?_
              replace H := bnd H; obtain ⟨t53, J56, H⟩ := H
              refine qCall rfl gd0 isf20 rfl rfl rfl (f_slices_Clone_int_int.ok (a0 := (rd xc1 s4.1).f_Routers) (sub_a (sub_c (sub_a (sub_c (sub_a (sub_a (sub_c (sub_c (sub_c (sub_c (sub_n hG))))))))))) J56 HF375 (sub_a (sub_c (sub_a (sub_c (sub_a (sub_a (sub_c (sub_c (sub_c (sub_c (sub_t (sub_t hs28 hs36) (sub_n hG)))))))))))) hr32) ?_
              rintro _ w175 ⟨A109, c131, L81, rfl, HF377, ho81⟩
              have HF378 := HF377.sublist (sl_da (sl_da (sl_dc (sl_a (sl_c (sl_a (sl_a (sl_c (sl_c (sl_c (sl_c (List.Sublist.refl _))))))))))))
              refine ⟨_, rfl, HF378, ?_⟩
              refine h1 8 (by kernel_rfl) rfl ?_
              replace H := bnd H; obtain ⟨t54, J57, H⟩ := H
              refine qCall rfl gd0 isf21 rfl rfl rfl (f_slices_Clone_api_Vert_api_Vert.ok (a0 := (rd xc1 s4.1).f_Verts) (sub_a (sub_a (sub_c (sub_a (sub_c (sub_a (sub_a (sub_c (sub_c (sub_c (sub_c (sub_n hG)))))))))))) J57 HF377 (sub_a (sub_a (sub_c (sub_a (sub_c (sub_a (sub_a (sub_c (sub_c (sub_c (sub_c (sub_t (sub_t hs28 hs36) (sub_n hG))))))))))))) hr33) ?_
              rintro _ w176 ⟨A110, c132, L82, rfl, HF379, ho82⟩
              have HF380 := HF379.sublist (sl_da (sl_da (sl_da (sl_dc (sl_a (sl_c (sl_a (sl_a (sl_c (sl_c (sl_c (sl_c (List.Sublist.refl _)))))))))))))
              refine ⟨_, rfl, HF380, ?_⟩
              refine h1 10 (by kernel_rfl) rfl ?_
              have HF381 := HF379.perm (perm_f1 (perm_f1 (perm_f1 (List.Perm.refl _))))
              refine qS rfl gd0 (oSt1 (l1 := [.int .i64 ((rd xc1 s4.1).f_Head.f_Age), .int .i64 ((rd xc1 s4.1).f_Head.f_Kind), .int .i64 ((rd xc1 s4.1).f_Head.f_Id), .int .i64 ((rd xc1 s4.1).f_Head.f_Adv), .int .i64 ((rd xc1 s4.1).f_Head.f_Seq), .int .i64 ((rd xc1 s4.1).f_Head.f_Sum), .int .i64 ((rd xc1 s4.1).f_Head.f_Len), .int .i64 ((rd xc1 s4.1).f_Flags), .slice A108 t52.length c130, .int .i64 ((rd xc1 s4.1).f_Bits), .slice A103 ((rd xc1 s4.1).f_Routers).length c125, .slice A104 ((rd xc1 s4.1).f_Verts).length c126]) HF381 rfl rfl ti28 rfl rfl rfl) ?_
              rintro w177 HF382
              have HF383 := HF382.sublist (sl_dc (sl_da (sl_da (sl_da (sl_a (sl_c (sl_a (sl_a (sl_c (sl_c (sl_c (sl_c (List.Sublist.refl _)))))))))))))
              refine ⟨HF383, ?_⟩
              refine hTake 11 rfl (by kernel_rfl) (pThen (pBlock (pThen (pThen (pBlock (pThen (pThen (pBlock (pThen pNo))))))))) (fun w_ hS_ => fa32_4 rfl) HF383 rfl rfl ?_
              refine h1 12 (by kernel_rfl) rfl ?_
              refine qS rfl gd0 (oSt1 (l1 := [.int .i64 ((rd xc1 s4.1).f_Head.f_Age), .int .i64 ((rd xc1 s4.1).f_Head.f_Kind), .int .i64 ((rd xc1 s4.1).f_Head.f_Id), .int .i64 ((rd xc1 s4.1).f_Head.f_Adv), .int .i64 ((rd xc1 s4.1).f_Head.f_Seq), .int .i64 ((rd xc1 s4.1).f_Head.f_Sum), .int .i64 ((rd xc1 s4.1).f_Head.f_Len), .int .i64 ((rd xc1 s4.1).f_Flags), .slice A108 t52.length c130, .int .i64 ((rd xc1 s4.1).f_Bits), .slice A109 t53.length c131, .slice A104 ((rd xc1 s4.1).f_Verts).length c126]) HF382 rfl rfl ti29 rfl rfl rfl) ?_
              rintro w178 HF384
              have HF385 := HF384.sublist (sl_dc (sl_da (sl_da (sl_da (sl_a (sl_c (sl_a (sl_a (sl_c (sl_c (sl_c (sl_c (List.Sublist.refl _)))))))))))))
              refine ⟨HF385, ?_⟩
              refine hTake 13 rfl (by kernel_rfl) (pThen (pBlock (pThen (pThen (pBlock (pThen (pThen (pBlock (pThen pNo))))))))) (fun w_ hS_ => fa32_5 rfl) HF385 rfl rfl ?_
              refine h1 14 (by kernel_rfl) rfl ?_
              refine qS rfl gd0 (oSt1 (l1 := [.int .i64 ((rd xc1 s4.1).f_Head.f_Age), .int .i64 ((rd xc1 s4.1).f_Head.f_Kind), .int .i64 ((rd xc1 s4.1).f_Head.f_Id), .int .i64 ((rd xc1 s4.1).f_Head.f_Adv), .int .i64 ((rd xc1 s4.1).f_Head.f_Seq), .int .i64 ((rd xc1 s4.1).f_Head.f_Sum), .int .i64 ((rd xc1 s4.1).f_Head.f_Len), .int .i64 ((rd xc1 s4.1).f_Flags), .slice A108 t52.length c130, .int .i64 ((rd xc1 s4.1).f_Bits), .slice A109 t53.length c131, .slice A110 t54.length c132]) HF384 rfl rfl ti30 rfl rfl rfl) ?_
              rintro w179 HF386
              have HF387 := HF386.sublist (sl_dc (sl_da (sl_da (sl_da (sl_a (sl_c (sl_a (sl_a (sl_c (sl_c (sl_c (sl_c (List.Sublist.refl _)))))))))))))
              refine ⟨HF387, ?_⟩
              refine hEnd (by kernel_rfl) ?_
              refine kN (?_)
              refine hK57 _ _ ?_
              refine rRgn [] trivial rfl ?_
              refine sL (fa38_11 rfl) rfl ?_
              refine sL (ld rfl Try.underlying22 rfl (HF386.box (mem_c (mem_a (mem_a (mem_a (mem_a mem_h))))) rfl)) rfl ?_
              refine sL (ldA (cs := [.int .i64 ((rd xc1 s4.1).f_Head.f_Age), .int .i64 ((rd xc1 s4.1).f_Head.f_Kind), .int .i64 ((rd xc1 s4.1).f_Head.f_Id), .int .i64 ((rd xc1 s4.1).f_Head.f_Adv), .int .i64 ((rd xc1 s4.1).f_Head.f_Seq), .int .i64 ((rd xc1 s4.1).f_Head.f_Sum), .int .i64 ((rd xc1 s4.1).f_Head.f_Len), .int .i64 ((rd xc1 s4.1).f_Flags), .slice A108 t52.length c130, .int .i64 ((rd xc1 s4.1).f_Bits), .slice A109 t53.length c131, .slice A110 t54.length c132]) rfl ti32 rfl rfl (HF386.boxes (o := 0) (n := 12) (mem_h) rfl)) rfl ?_
              have HF388 := HF386.perm (pm_c (pm_a (pm_a (perm_f (perm_c (perm_f (perm_f (perm_c (perm_c (perm_c (perm_c (List.Perm.refl _))))))))).symm)))
              obtain ⟨N31, hN31⟩ : ∃ N_, N_ = L80 ++ N30 := ⟨_, rfl⟩
              have HF389 := HF388; rw [← List.append_assoc L80 N30 F, ← hN31] at HF389
              have hs37 : N30 ++ G ⊆ N31 ++ G := frz_s hN31
              have hz27 : RdS k_T_api_Link (N31 ++ G) A108 c130 t52 := RdS.mono ho80.rd (frz_l hN31)
              have HF390 := HF389.perm (pm_c (pm_a (perm_f (perm_c (perm_f (perm_f (perm_c (perm_c (perm_c (perm_c (List.Perm.refl _))))))))).symm))
              obtain ⟨N32, hN32⟩ : ∃ N_, N_ = L81 ++ N31 := ⟨_, rfl⟩
              have HF391 := HF390; rw [← List.append_assoc L81 N31 F, ← hN32] at HF391
              have hs38 : N31 ++ G ⊆ N32 ++ G := frz_s hN32
              have hz28 : RdS (kInt .i64) (N32 ++ G) A109 c131 t53 := RdS.mono ho81.rd (frz_l hN32)
              have HF392 := HF391.perm (pm_c (perm_f (perm_c (perm_f (perm_f (perm_c (perm_c (perm_c (perm_c (List.Perm.refl _))))))))).symm)
              obtain ⟨N33, hN33⟩ : ∃ N_, N_ = L82 ++ N32 := ⟨_, rfl⟩
              have HF393 := HF392; rw [← List.append_assoc L82 N32 F, ← hN33] at HF393
              have hs39 : N32 ++ G ⊆ N33 ++ G := frz_s hN33
              have hz29 : RdS k_T_api_Vert (N33 ++ G) A110 c132 t54 := RdS.mono ho82.rd (frz_l hN33)
              refine eW (oLit (r := [.int .i64 ((rd xc1 s4.1).f_Head.f_Age), .int .i64 ((rd xc1 s4.1).f_Head.f_Kind), .int .i64 ((rd xc1 s4.1).f_Head.f_Id), .int .i64 ((rd xc1 s4.1).f_Head.f_Adv), .int .i64 ((rd xc1 s4.1).f_Head.f_Seq), .int .i64 ((rd xc1 s4.1).f_Head.f_Sum), .int .i64 ((rd xc1 s4.1).f_Head.f_Len), .int .i64 ((rd xc1 s4.1).f_Flags), .slice A108 t52.length c130, .int .i64 ((rd xc1 s4.1).f_Bits), .slice A109 t53.length c131, .slice A110 t54.length c132]) (kShr (N33 ++ G) k_T_api_Lsa) [(⟨(⟨(rd xc1 s4.1).f_Head.f_Age, (rd xc1 s4.1).f_Head.f_Kind, (rd xc1 s4.1).f_Head.f_Id, (rd xc1 s4.1).f_Head.f_Adv, (rd xc1 s4.1).f_Head.f_Seq, (rd xc1 s4.1).f_Head.f_Sum, (rd xc1 s4.1).f_Head.f_Len⟩ : T_api_Head), (rd xc1 s4.1).f_Flags, t52, (rd xc1 s4.1).f_Bits, t53, t54⟩ : T_api_Lsa)] HF393 Try.underlying22 ti32 rfl rfl rfl rfl ⟨[], [], [.int .i64 ((rd xc1 s4.1).f_Head.f_Age), .int .i64 ((rd xc1 s4.1).f_Head.f_Kind), .int .i64 ((rd xc1 s4.1).f_Head.f_Id), .int .i64 ((rd xc1 s4.1).f_Head.f_Adv), .int .i64 ((rd xc1 s4.1).f_Head.f_Seq), .int .i64 ((rd xc1 s4.1).f_Head.f_Sum), .int .i64 ((rd xc1 s4.1).f_Head.f_Len), .int .i64 ((rd xc1 s4.1).f_Flags), .slice A108 t52.length c130, .int .i64 ((rd xc1 s4.1).f_Bits), .slice A109 t53.length c131, .slice A110 t54.length c132], _, rfl, rfl, ⟨rfl, mk_T_api_Lsa (x := (⟨(⟨(rd xc1 s4.1).f_Head.f_Age, (rd xc1 s4.1).f_Head.f_Kind, (rd xc1 s4.1).f_Head.f_Id, (rd xc1 s4.1).f_Head.f_Adv, (rd xc1 s4.1).f_Head.f_Seq, (rd xc1 s4.1).f_Head.f_Sum, (rd xc1 s4.1).f_Head.f_Len⟩ : T_api_Head), (rd xc1 s4.1).f_Flags, t52, (rd xc1 s4.1).f_Bits, t53, t54⟩ : T_api_Lsa)) ((RdS.mono hz27 (sub_t hs38 hs39))) ((RdS.mono hz28 hs39)) (hz29)⟩, ⟨rfl, rfl⟩⟩ rfl rfl) rfl ?_
              rintro _ w180 ⟨L83, A111, c133, rfl, HF394, ho83⟩
              replace H := chk H; obtain ⟨c134, H⟩ := H
              have HF395 := HF394.perm (perm_f (perm_c (List.Perm.refl _)))
              refine eW (oApp (xs := s4.2) (ys := ([(⟨(⟨(rd xc1 s4.1).f_Head.f_Age, (rd xc1 s4.1).f_Head.f_Kind, (rd xc1 s4.1).f_Head.f_Id, (rd xc1 s4.1).f_Head.f_Adv, (rd xc1 s4.1).f_Head.f_Seq, (rd xc1 s4.1).f_Head.f_Sum, (rd xc1 s4.1).f_Head.f_Len⟩ : T_api_Head), (rd xc1 s4.1).f_Flags, t52, (rd xc1 s4.1).f_Bits, t53, t54⟩ : T_api_Lsa)])) (kShr (N33 ++ G) k_T_api_Lsa) HF395 rfl rfl Try.underlying22 Try.underlying22 ti32 rfl (OwnS.lift hr30 (sub_t hs37 (sub_t hs38 hs39))) (srcR shrS ho83.rd HF395 (sub_a sub_h)) c134 rfl) rfl ?_
              rintro _ w181 ⟨L84, A112, c135, rfl, HF396, ho84⟩
              refine sL (fa38_11 rfl) rfl ?_
              have HF397 := HF396.perm (perm_f1 (perm_f1 (perm_c1 (List.Perm.refl _))))
              refine eS (oSt1 (l1 := [.int .i64 4, .int .i64 a0, .int .i64 0, .int .i64 0, .int .i64 0, .int .i64 0, .slice none 0 0, .int .i64 0, .int .i64 0, .slice none 0 0, .slice none 0 0, .slice A112 (s4.2 ++ [(⟨(⟨(rd xc1 s4.1).f_Head.f_Age, (rd xc1 s4.1).f_Head.f_Kind, (rd xc1 s4.1).f_Head.f_Id, (rd xc1 s4.1).f_Head.f_Adv, (rd xc1 s4.1).f_Head.f_Seq, (rd xc1 s4.1).f_Head.f_Sum, (rd xc1 s4.1).f_Head.f_Len⟩ : T_api_Head), (rd xc1 s4.1).f_Flags, t52, (rd xc1 s4.1).f_Bits, t53, t54⟩ : T_api_Lsa)]).length c135]) HF397 rfl rfl ti22 rfl rfl rfl) ?_
              rintro w182 HF398
              refine lEnd (K := fun _ _ => True) ?_
              refine jN (kN (?_))
              refine hK55 _ _ ?_
              refine rRgn [] trivial rfl ?_
              refine sL (bAdd rfl rfl) rfl ?_
              refine sL (mv rfl) rfl ?_
              refine lEnd (K := fun _ _ => True) ?_
              refine kN (?_)
              have hs40 : (N33 ++ G) ⊆ ((L82 ++ (L81 ++ (L80 ++ D8))) ++ (D6 ++ G)) := by rw [hN33, hN32, hN31, hN30]; simp only [List.append_assoc]; exact sub_r
              have HF399 := HF398.sublist (sl_c (sl_a (sl_da (sl_dc (sl_a (sl_a (sl_c (sl_c (sl_c (sl_c (List.Sublist.refl _)))))))))))
              have HF400 := HF399.perm (perm_c1 (perm_f1 (perm_f1 (perm_f1 (perm_c1 (perm_c1 (perm_c1 (List.Perm.refl _))))))))
              have HF401 := HF400.perm (perm_c1 (perm_c1 (perm_f1 (perm_f1 (perm_f1 (perm_c1 (perm_c1 (List.Perm.refl _))))))))
              have HF402 := HF401.perm (perm_c1 (perm_c1 (perm_c1 (perm_f1 (perm_f1 (perm_f1 (perm_c1 (List.Perm.refl _))))))))
              have HF403 := HF402.perm (perm_c1 (perm_c1 (perm_c1 (perm_c1 (perm_f1 (perm_f1 (perm_f1 (List.Perm.refl _))))))))
              have HF404 := HF403.perm (perm_c (perm_c (perm_c (perm_c (perm_c (perm_f (perm_f (List.Perm.refl _))))))))
              have HF405 := HF404.perm (perm_f (perm_c (perm_c (perm_c (perm_c (perm_c (perm_f (List.Perm.refl _))))))))
              have HF406 := HF405.perm (perm_f1 (perm_f1 (perm_c1 (perm_c1 (perm_c1 (perm_c1 (List.Perm.refl _)))))))
              have HF407 := HF406.perm (perm_c (perm_f (perm_f (perm_c (perm_c (perm_c (perm_c (List.Perm.refl _))))))))
              have HF408 := Fits.conv (L' := (L84 ++ (bk g19 38 [.int .i64 4, .int .i64 a0, .int .i64 0, .int .i64 0, .int .i64 0, .int .i64 0, .slice none 0 0, .int .i64 0, .int .i64 0, .slice none 0 0, .slice none 0 0, .slice A112 (s4.2 ++ [(⟨(⟨(rd xc1 s4.1).f_Head.f_Age, (rd xc1 s4.1).f_Head.f_Kind, (rd xc1 s4.1).f_Head.f_Id, (rd xc1 s4.1).f_Head.f_Adv, (rd xc1 s4.1).f_Head.f_Seq, (rd xc1 s4.1).f_Head.f_Sum, (rd xc1 s4.1).f_Head.f_Len⟩ : T_api_Head), (rd xc1 s4.1).f_Flags, t52, (rd xc1 s4.1).f_Bits, t53, t54⟩ : T_api_Lsa)]).length c135] :: (M_ ++ (L58 ++ (bk g3 22 [.slice A_a1 a1.length c_a1] :: (bk g4 3 [.int .i64 4] :: (bk g2 33 [.slice A77 s3.length c93] :: (bk g1 3 [.int .i64 a0] :: ((L82 ++ (L81 ++ (L80 ++ D8))) ++ (D6 ++ F))))))))))) HF407 (by rw [hN33, hN32, hN31, hN30]; simp only [List.append_assoc])
              exact ofEnv (fun a hE => ⟨_, (Option.some.inj H).symm, ⟨(L82 ++ (L81 ++ (L80 ++ D8))), _, _, L84, hE.keep (Keep.cons rfl (Keep.cons rfl (Keep.cons rfl (Keep.cons rfl (Keep.cons rfl (Keep.cons rfl (Keep.cons rfl (Keep.cons rfl (Keep.nil))))))))), HF408, (OwnS.lift ho84 hs40)⟩⟩)
            · refine qL rfl gd0 (ld rfl Try.underlying29 rfl (HF373.box (mem_h) rfl)) rfl HF374 ?_
              refine h1 2 (by kernel_rfl) rfl ?_
              replace H := bnd H; obtain ⟨t52, J55, H⟩ := H
              refine qCall rfl gd0 isf19 rfl rfl rfl (f_slices_Clone_api_Link_api_Link.ok (a0 := (rd xc1 s4.1).f_Links) (sub_c (sub_a (sub_c (sub_a (sub_a (sub_c (sub_c (sub_c (sub_c (sub_n hG)))))))))) J55 HF373 (sub_c (sub_a (sub_c (sub_a (sub_a (sub_c (sub_c (sub_c (sub_c (sub_t (sub_t hs28 hs36) (sub_n hG))))))))))) hr31) ?_
              rintro _ w174 ⟨A108, c130, L80, rfl, HF375, ho80⟩
              have HF376 := HF375.sublist (sl_da (sl_dc (sl_a (sl_c (sl_a (sl_a (sl_c (sl_c (sl_c (sl_c (List.Sublist.refl _)))))))))))
              refine ⟨_, rfl, HF376, ?_⟩
              refine hTake 9 rfl (by kernel_rfl) (pThen (pBlock (pThen (pThen (pBlock (pThen (pThen (pBlock (pThen pNo))))))))) (fun w_ hS_ => fa32_2 rfl) HF376 rfl rfl ?_
              refine h1 5 (by kernel_rfl) rfl ?_
              replace H := bnd H; obtain ⟨t53, J56, H⟩ := H
              refine qCall rfl gd0 isf20 rfl rfl rfl (f_slices_Clone_int_int.ok (a0 := (rd xc1 s4.1).f_Routers) (sub_a (sub_c (sub_a (sub_c (sub_a (sub_a (sub_c (sub_c (sub_c (sub_c (sub_n hG))))))))))) J56 HF375 (sub_a (sub_c (sub_a (sub_c (sub_a (sub_a (sub_c (sub_c (sub_c (sub_c (sub_t (sub_t hs28 hs36) (sub_n hG)))))))))))) hr32) ?_
              rintro _ w175 ⟨A109, c131, L81, rfl, HF377, ho81⟩
              have HF378 := HF377.sublist (sl_da (sl_da (sl_dc (sl_a (sl_c (sl_a (sl_a (sl_c (sl_c (sl_c (sl_c (List.Sublist.refl _))))))))))))
              refine ⟨_, rfl, HF378, ?_⟩
              refine h1 8 (by kernel_rfl) rfl ?_
              replace H := bnd H; obtain ⟨t54, J57, H⟩ := H
              refine qCall rfl gd0 isf21 rfl rfl rfl (f_slices_Clone_api_Vert_api_Vert.ok (a0 := (rd xc1 s4.1).f_Verts) (sub_a (sub_a (sub_c (sub_a (sub_c (sub_a (sub_a (sub_c (sub_c (sub_c (sub_c (sub_n hG)))))))))))) J57 HF377 (sub_a (sub_a (sub_c (sub_a (sub_c (sub_a (sub_a (sub_c (sub_c (sub_c (sub_c (sub_t (sub_t hs28 hs36) (sub_n hG))))))))))))) hr33) ?_
              rintro _ w176 ⟨A110, c132, L82, rfl, HF379, ho82⟩
              have HF380 := HF379.sublist (sl_da (sl_da (sl_da (sl_dc (sl_a (sl_c (sl_a (sl_a (sl_c (sl_c (sl_c (sl_c (List.Sublist.refl _)))))))))))))
              refine ⟨_, rfl, HF380, ?_⟩
              refine h1 10 (by kernel_rfl) rfl ?_
              have HF381 := HF379.perm (perm_f1 (perm_f1 (perm_f1 (List.Perm.refl _))))
              refine qS rfl gd0 (oSt1 (l1 := [.int .i64 ((rd xc1 s4.1).f_Head.f_Age), .int .i64 ((rd xc1 s4.1).f_Head.f_Kind), .int .i64 ((rd xc1 s4.1).f_Head.f_Id), .int .i64 ((rd xc1 s4.1).f_Head.f_Adv), .int .i64 ((rd xc1 s4.1).f_Head.f_Seq), .int .i64 ((rd xc1 s4.1).f_Head.f_Sum), .int .i64 ((rd xc1 s4.1).f_Head.f_Len), .int .i64 ((rd xc1 s4.1).f_Flags), .slice A108 t52.length c130, .int .i64 ((rd xc1 s4.1).f_Bits), .slice A103 ((rd xc1 s4.1).f_Routers).length c125, .slice A104 ((rd xc1 s4.1).f_Verts).length c126]) HF381 rfl rfl ti28 rfl rfl rfl) ?_
              rintro w177 HF382
              have HF383 := HF382.sublist (sl_dc (sl_da (sl_da (sl_da (sl_a (sl_c (sl_a (sl_a (sl_c (sl_c (sl_c (sl_c (List.Sublist.refl _)))))))))))))
              refine ⟨HF383, ?_⟩
              refine hTake 11 rfl (by kernel_rfl) (pThen (pBlock (pThen (pThen (pBlock (pThen (pThen (pBlock (pThen pNo))))))))) (fun w_ hS_ => fa32_4 rfl) HF383 rfl rfl ?_
              refine h1 12 (by kernel_rfl) rfl ?_
              refine qS rfl gd0 (oSt1 (l1 := [.int .i64 ((rd xc1 s4.1).f_Head.f_Age), .int .i64 ((rd xc1 s4.1).f_Head.f_Kind), .int .i64 ((rd xc1 s4.1).f_Head.f_Id), .int .i64 ((rd xc1 s4.1).f_Head.f_Adv), .int .i64 ((rd xc1 s4.1).f_Head.f_Seq), .int .i64 ((rd xc1 s4.1).f_Head.f_Sum), .int .i64 ((rd xc1 s4.1).f_Head.f_Len), .int .i64 ((rd xc1 s4.1).f_Flags), .slice A108 t52.length c130, .int .i64 ((rd xc1 s4.1).f_Bits), .slice A109 t53.length c131, .slice A104 ((rd xc1 s4.1).f_Verts).length c126]) HF382 rfl rfl ti29 rfl rfl rfl) ?_
              rintro w178 HF384
              have HF385 := HF384.sublist (sl_dc (sl_da (sl_da (sl_da (sl_a (sl_c (sl_a (sl_a (sl_c (sl_c (sl_c (sl_c (List.Sublist.refl _)))))))))))))
              refine ⟨HF385, ?_⟩
              refine hTake 13 rfl (by kernel_rfl) (pThen (pBlock (pThen (pThen (pBlock (pThen (pThen (pBlock (pThen pNo))))))))) (fun w_ hS_ => fa32_5 rfl) HF385 rfl rfl ?_
              refine h1 14 (by kernel_rfl) rfl ?_
              refine qS rfl gd0 (oSt1 (l1 := [.int .i64 ((rd xc1 s4.1).f_Head.f_Age), .int .i64 ((rd xc1 s4.1).f_Head.f_Kind), .int .i64 ((rd xc1 s4.1).f_Head.f_Id), .int .i64 ((rd xc1 s4.1).f_Head.f_Adv), .int .i64 ((rd xc1 s4.1).f_Head.f_Seq), .int .i64 ((rd xc1 s4.1).f_Head.f_Sum), .int .i64 ((rd xc1 s4.1).f_Head.f_Len), .int .i64 ((rd xc1 s4.1).f_Flags), .slice A108 t52.length c130, .int .i64 ((rd xc1 s4.1).f_Bits), .slice A109 t53.length c131, .slice A110 t54.length c132]) HF384 rfl rfl ti30 rfl rfl rfl) ?_
              rintro w179 HF386
              have HF387 := HF386.sublist (sl_dc (sl_da (sl_da (sl_da (sl_a (sl_c (sl_a (sl_a (sl_c (sl_c (sl_c (sl_c (List.Sublist.refl _)))))))))))))
              refine ⟨HF387, ?_⟩
              refine hEnd (by kernel_rfl) ?_
              refine kN (?_)
              refine hK57 _ _ ?_
              refine rRgn [] trivial rfl ?_
              refine sL (fa38_11 rfl) rfl ?_
              refine sL (ld rfl Try.underlying22 rfl (HF386.box (mem_c (mem_a (mem_a (mem_a (mem_a mem_h))))) rfl)) rfl ?_
              refine sL (ldA (cs := [.int .i64 ((rd xc1 s4.1).f_Head.f_Age), .int .i64 ((rd xc1 s4.1).f_Head.f_Kind), .int .i64 ((rd xc1 s4.1).f_Head.f_Id), .int .i64 ((rd xc1 s4.1).f_Head.f_Adv), .int .i64 ((rd xc1 s4.1).f_Head.f_Seq), .int .i64 ((rd xc1 s4.1).f_Head.f_Sum), .int .i64 ((rd xc1 s4.1).f_Head.f_Len), .int .i64 ((rd xc1 s4.1).f_Flags), .slice A108 t52.length c130, .int .i64 ((rd xc1 s4.1).f_Bits), .slice A109 t53.length c131, .slice A110 t54.length c132]) rfl ti32 rfl rfl (HF386.boxes (o := 0) (n := 12) (mem_h) rfl)) rfl ?_
              have HF388 := HF386.perm (pm_c (pm_a (pm_a (perm_f (perm_c (perm_f (perm_f (perm_c (perm_c (perm_c (perm_c (List.Perm.refl _))))))))).symm)))
              obtain ⟨N31, hN31⟩ : ∃ N_, N_ = L80 ++ N30 := ⟨_, rfl⟩
              have HF389 := HF388; rw [← List.append_assoc L80 N30 F, ← hN31] at HF389
              have hs37 : N30 ++ G ⊆ N31 ++ G := frz_s hN31
              have hz27 : RdS k_T_api_Link (N31 ++ G) A108 c130 t52 := RdS.mono ho80.rd (frz_l hN31)
              have HF390 := HF389.perm (pm_c (pm_a (perm_f (perm_c (perm_f (perm_f (perm_c (perm_c (perm_c (perm_c (List.Perm.refl _))))))))).symm))
              obtain ⟨N32, hN32⟩ : ∃ N_, N_ = L81 ++ N31 := ⟨_, rfl⟩
              have HF391 := HF390; rw [← List.append_assoc L81 N31 F, ← hN32] at HF391
              have hs38 : N31 ++ G ⊆ N32 ++ G := frz_s hN32
              have hz28 : RdS (kInt .i64) (N32 ++ G) A109 c131 t53 := RdS.mono ho81.rd (frz_l hN32)
              have HF392 := HF391.perm (pm_c (perm_f (perm_c (perm_f (perm_f (perm_c (perm_c (perm_c (perm_c (List.Perm.refl _))))))))).symm)
              obtain ⟨N33, hN33⟩ : ∃ N_, N_ = L82 ++ N32 := ⟨_, rfl⟩
              have HF393 := HF392; rw [← List.append_assoc L82 N32 F, ← hN33] at HF393
              have hs39 : N32 ++ G ⊆ N33 ++ G := frz_s hN33
              have hz29 : RdS k_T_api_Vert (N33 ++ G) A110 c132 t54 := RdS.mono ho82.rd (frz_l hN33)
              refine eW (oLit (r := [.int .i64 ((rd xc1 s4.1).f_Head.f_Age), .int .i64 ((rd xc1 s4.1).f_Head.f_Kind), .int .i64 ((rd xc1 s4.1).f_Head.f_Id), .int .i64 ((rd xc1 s4.1).f_Head.f_Adv), .int .i64 ((rd xc1 s4.1).f_Head.f_Seq), .int .i64 ((rd xc1 s4.1).f_Head.f_Sum), .int .i64 ((rd xc1 s4.1).f_Head.f_Len), .int .i64 ((rd xc1 s4.1).f_Flags), .slice A108 t52.length c130, .int .i64 ((rd xc1 s4.1).f_Bits), .slice A109 t53.length c131, .slice A110 t54.length c132]) (kShr (N33 ++ G) k_T_api_Lsa) [(⟨(⟨(rd xc1 s4.1).f_Head.f_Age, (rd xc1 s4.1).f_Head.f_Kind, (rd xc1 s4.1).f_Head.f_Id, (rd xc1 s4.1).f_Head.f_Adv, (rd xc1 s4.1).f_Head.f_Seq, (rd xc1 s4.1).f_Head.f_Sum, (rd xc1 s4.1).f_Head.f_Len⟩ : T_api_Head), (rd xc1 s4.1).f_Flags, t52, (rd xc1 s4.1).f_Bits, t53, t54⟩ : T_api_Lsa)] HF393 Try.underlying22 ti32 rfl rfl rfl rfl ⟨[], [], [.int .i64 ((rd xc1 s4.1).f_Head.f_Age), .int .i64 ((rd xc1 s4.1).f_Head.f_Kind), .int .i64 ((rd xc1 s4.1).f_Head.f_Id), .int .i64 ((rd xc1 s4.1).f_Head.f_Adv), .int .i64 ((rd xc1 s4.1).f_Head.f_Seq), .int .i64 ((rd xc1 s4.1).f_Head.f_Sum), .int .i64 ((rd xc1 s4.1).f_Head.f_Len), .int .i64 ((rd xc1 s4.1).f_Flags), .slice A108 t52.length c130, .int .i64 ((rd xc1 s4.1).f_Bits), .slice A109 t53.length c131, .slice A110 t54.length c132], _, rfl, rfl, ⟨rfl, mk_T_api_Lsa (x := (⟨(⟨(rd xc1 s4.1).f_Head.f_Age, (rd xc1 s4.1).f_Head.f_Kind, (rd xc1 s4.1).f_Head.f_Id, (rd xc1 s4.1).f_Head.f_Adv, (rd xc1 s4.1).f_Head.f_Seq, (rd xc1 s4.1).f_Head.f_Sum, (rd xc1 s4.1).f_Head.f_Len⟩ : T_api_Head), (rd xc1 s4.1).f_Flags, t52, (rd xc1 s4.1).f_Bits, t53, t54⟩ : T_api_Lsa)) ((RdS.mono hz27 (sub_t hs38 hs39))) ((RdS.mono hz28 hs39)) (hz29)⟩, ⟨rfl, rfl⟩⟩ rfl rfl) rfl ?_
              rintro _ w180 ⟨L83, A111, c133, rfl, HF394, ho83⟩
              replace H := chk H; obtain ⟨c134, H⟩ := H
              have HF395 := HF394.perm (perm_f (perm_c (List.Perm.refl _)))
              refine eW (oApp (xs := s4.2) (ys := ([(⟨(⟨(rd xc1 s4.1).f_Head.f_Age, (rd xc1 s4.1).f_Head.f_Kind, (rd xc1 s4.1).f_Head.f_Id, (rd xc1 s4.1).f_Head.f_Adv, (rd xc1 s4.1).f_Head.f_Seq, (rd xc1 s4.1).f_Head.f_Sum, (rd xc1 s4.1).f_Head.f_Len⟩ : T_api_Head), (rd xc1 s4.1).f_Flags, t52, (rd xc1 s4.1).f_Bits, t53, t54⟩ : T_api_Lsa)])) (kShr (N33 ++ G) k_T_api_Lsa) HF395 rfl rfl Try.underlying22 Try.underlying22 ti32 rfl (OwnS.lift hr30 (sub_t hs37 (sub_t hs38 hs39))) (srcR shrS ho83.rd HF395 (sub_a sub_h)) c134 rfl) rfl ?_
              rintro _ w181 ⟨L84, A112, c135, rfl, HF396, ho84⟩
              refine sL (fa38_11 rfl) rfl ?_
              have HF397 := HF396.perm (perm_f1 (perm_f1 (perm_c1 (List.Perm.refl _))))
              refine eS (oSt1 (l1 := [.int .i64 4, .int .i64 a0, .int .i64 0, .int .i64 0, .int .i64 0, .int .i64 0, .slice none 0 0, .int .i64 0, .int .i64 0, .slice none 0 0, .slice none 0 0, .slice A112 (s4.2 ++ [(⟨(⟨(rd xc1 s4.1).f_Head.f_Age, (rd xc1 s4.1).f_Head.f_Kind, (rd xc1 s4.1).f_Head.f_Id, (rd xc1 s4.1).f_Head.f_Adv, (rd xc1 s4.1).f_Head.f_Seq, (rd xc1 s4.1).f_Head.f_Sum, (rd xc1 s4.1).f_Head.f_Len⟩ : T_api_Head), (rd xc1 s4.1).f_Flags, t52, (rd xc1 s4.1).f_Bits, t53, t54⟩ : T_api_Lsa)]).length c135]) HF397 rfl rfl ti22 rfl rfl rfl) ?_
              rintro w182 HF398
              refine lEnd (K := fun _ _ => True) ?_
              refine jN (kN (?_))
              refine hK55 _ _ ?_
              refine rRgn [] trivial rfl ?_
              refine sL (bAdd rfl rfl) rfl ?_
              refine sL (mv rfl) rfl ?_
              refine lEnd (K := fun _ _ => True) ?_
              refine kN (?_)
              have hs40 : (N33 ++ G) ⊆ ((L82 ++ (L81 ++ (L80 ++ D8))) ++ (D6 ++ G)) := by rw [hN33, hN32, hN31, hN30]; simp only [List.append_assoc]; exact sub_r
              have HF399 := HF398.sublist (sl_c (sl_a (sl_da (sl_dc (sl_a (sl_a (sl_c (sl_c (sl_c (sl_c (List.Sublist.refl _)))))))))))
              have HF400 := HF399.perm (perm_c1 (perm_f1 (perm_f1 (perm_f1 (perm_c1 (perm_c1 (perm_c1 (List.Perm.refl _))))))))
              have HF401 := HF400.perm (perm_c1 (perm_c1 (perm_f1 (perm_f1 (perm_f1 (perm_c1 (perm_c1 (List.Perm.refl _))))))))
              have HF402 := HF401.perm (perm_c1 (perm_c1 (perm_c1 (perm_f1 (perm_f1 (perm_f1 (perm_c1 (List.Perm.refl _))))))))
              have HF403 := HF402.perm (perm_c1 (perm_c1 (perm_c1 (perm_c1 (perm_f1 (perm_f1 (perm_f1 (List.Perm.refl _))))))))
              have HF404 := HF403.perm (perm_c (perm_c (perm_c (perm_c (perm_c (perm_f (perm_f (List.Perm.refl _))))))))
              have HF405 := HF404.perm (perm_f (perm_c (perm_c (perm_c (perm_c (perm_c (perm_f (List.Perm.refl _))))))))
              have HF406 := HF405.perm (perm_f1 (perm_f1 (perm_c1 (perm_c1 (perm_c1 (perm_c1 (List.Perm.refl _)))))))
              have HF407 := HF406.perm (perm_c (perm_f (perm_f (perm_c (perm_c (perm_c (perm_c (List.Perm.refl _))))))))
              have HF408 := Fits.conv (L' := (L84 ++ (bk g19 38 [.int .i64 4, .int .i64 a0, .int .i64 0, .int .i64 0, .int .i64 0, .int .i64 0, .slice none 0 0, .int .i64 0, .int .i64 0, .slice none 0 0, .slice none 0 0, .slice A112 (s4.2 ++ [(⟨(⟨(rd xc1 s4.1).f_Head.f_Age, (rd xc1 s4.1).f_Head.f_Kind, (rd xc1 s4.1).f_Head.f_Id, (rd xc1 s4.1).f_Head.f_Adv, (rd xc1 s4.1).f_Head.f_Seq, (rd xc1 s4.1).f_Head.f_Sum, (rd xc1 s4.1).f_Head.f_Len⟩ : T_api_Head), (rd xc1 s4.1).f_Flags, t52, (rd xc1 s4.1).f_Bits, t53, t54⟩ : T_api_Lsa)]).length c135] :: (M_ ++ (L58 ++ (bk g3 22 [.slice A_a1 a1.length c_a1] :: (bk g4 3 [.int .i64 4] :: (bk g2 33 [.slice A77 s3.length c93] :: (bk g1 3 [.int .i64 a0] :: ((L82 ++ (L81 ++ (L80 ++ D8))) ++ (D6 ++ F))))))))))) HF407 (by rw [hN33, hN32, hN31, hN30]; simp only [List.append_assoc])
              exact ofEnv (fun a hE => ⟨_, (Option.some.inj H).symm, ⟨(L82 ++ (L81 ++ (L80 ++ D8))), _, _, L84, hE.keep (Keep.cons rfl (Keep.cons rfl (Keep.cons rfl (Keep.cons rfl (Keep.cons rfl (Keep.cons rfl (Keep.cons rfl (Keep.cons rfl (Keep.nil))))))))), HF408, (OwnS.lift ho84 hs40)⟩⟩)
          · refine qL rfl gd0 (ld rfl Try.underlying29 rfl (HF373.box (mem_h) rfl)) rfl HF374 ?_
            refine h1 1 (by kernel_rfl) rfl ?_
            refine qL rfl gd0 (ld rfl Try.underlying28 rfl (HF373.box (mem_h) rfl)) rfl HF374 ?_
            refine h1 2 (by kernel_rfl) rfl ?_
            replace H := bnd H; obtain ⟨t52, J55, H⟩ := H
            refine qCall rfl gd0 isf19 rfl rfl rfl (f_slices_Clone_api_Link_api_Link.ok (a0 := (rd xc1 s4.1).f_Links) (sub_c (sub_a (sub_c (sub_a (sub_a (sub_c (sub_c (sub_c (sub_c (sub_n hG)))))))))) J55 HF373 (sub_c (sub_a (sub_c (sub_a (sub_a (sub_c (sub_c (sub_c (sub_c (sub_t (sub_t hs28 hs36) (sub_n hG))))))))))) hr31) ?_
            rintro _ w174 ⟨A108, c130, L80, rfl, HF375, ho80⟩
            have HF376 := HF375.sublist (sl_da (sl_dc (sl_a (sl_c (sl_a (sl_a (sl_c (sl_c (sl_c (sl_c (List.Sublist.refl _)))))))))))
            refine ⟨_, rfl, HF376, ?_⟩
            refine hTake 9 rfl (by kernel_rfl) (pThen (pBlock (pThen (pThen (pBlock (pThen (pThen (pBlock (pThen pNo))))))))) (fun w_ hS_ => fa32_2 rfl) HF376 rfl rfl ?_
            refine h1 5 (by kernel_rfl) rfl ?_
            replace H := bnd H; obtain ⟨t53, J56, H⟩ := H
            refine qCall rfl gd0 isf20 rfl rfl rfl (f_slices_Clone_int_int.ok (a0 := (rd xc1 s4.1).f_Routers) (sub_a (sub_c (sub_a (sub_c (sub_a (sub_a (sub_c (sub_c (sub_c (sub_c (sub_n hG))))))))))) J56 HF375 (sub_a (sub_c (sub_a (sub_c (sub_a (sub_a (sub_c (sub_c (sub_c (sub_c (sub_t (sub_t hs28 hs36) (sub_n hG)))))))))))) hr32) ?_
            rintro _ w175 ⟨A109, c131, L81, rfl, HF377, ho81⟩
            have HF378 := HF377.sublist (sl_da (sl_da (sl_dc (sl_a (sl_c (sl_a (sl_a (sl_c (sl_c (sl_c (sl_c (List.Sublist.refl _))))))))))))
            refine ⟨_, rfl, HF378, ?_⟩
            refine h1 8 (by kernel_rfl) rfl ?_
            replace H := bnd H; obtain ⟨t54, J57, H⟩ := H
            refine qCall rfl gd0 isf21 rfl rfl rfl (f_slices_Clone_api_Vert_api_Vert.ok (a0 := (rd xc1 s4.1).f_Verts) (sub_a (sub_a (sub_c (sub_a (sub_c (sub_a (sub_a (sub_c (sub_c (sub_c (sub_c (sub_n hG)))))))))))) J57 HF377 (sub_a (sub_a (sub_c (sub_a (sub_c (sub_a (sub_a (sub_c (sub_c (sub_c (sub_c (sub_t (sub_t hs28 hs36) (sub_n hG))))))))))))) hr33) ?_
            rintro _ w176 ⟨A110, c132, L82, rfl, HF379, ho82⟩
            have HF380 := HF379.sublist (sl_da (sl_da (sl_da (sl_dc (sl_a (sl_c (sl_a (sl_a (sl_c (sl_c (sl_c (sl_c (List.Sublist.refl _)))))))))))))
            refine ⟨_, rfl, HF380, ?_⟩
            refine h1 10 (by kernel_rfl) rfl ?_
            have HF381 := HF379.perm (perm_f1 (perm_f1 (perm_f1 (List.Perm.refl _))))
            refine qS rfl gd0 (oSt1 (l1 := [.int .i64 ((rd xc1 s4.1).f_Head.f_Age), .int .i64 ((rd xc1 s4.1).f_Head.f_Kind), .int .i64 ((rd xc1 s4.1).f_Head.f_Id), .int .i64 ((rd xc1 s4.1).f_Head.f_Adv), .int .i64 ((rd xc1 s4.1).f_Head.f_Seq), .int .i64 ((rd xc1 s4.1).f_Head.f_Sum), .int .i64 ((rd xc1 s4.1).f_Head.f_Len), .int .i64 ((rd xc1 s4.1).f_Flags), .slice A108 t52.length c130, .int .i64 ((rd xc1 s4.1).f_Bits), .slice A103 ((rd xc1 s4.1).f_Routers).length c125, .slice A104 ((rd xc1 s4.1).f_Verts).length c126]) HF381 rfl rfl ti28 rfl rfl rfl) ?_
            rintro w177 HF382
            have HF383 := HF382.sublist (sl_dc (sl_da (sl_da (sl_da (sl_a (sl_c (sl_a (sl_a (sl_c (sl_c (sl_c (sl_c (List.Sublist.refl _)))))))))))))
            refine ⟨HF383, ?_⟩
            refine hTake 11 rfl (by kernel_rfl) (pThen (pBlock (pThen (pThen (pBlock (pThen (pThen (pBlock (pThen pNo))))))))) (fun w_ hS_ => fa32_4 rfl) HF383 rfl rfl ?_
            refine h1 12 (by kernel_rfl) rfl ?_
            refine qS rfl gd0 (oSt1 (l1 := [.int .i64 ((rd xc1 s4.1).f_Head.f_Age), .int .i64 ((rd xc1 s4.1).f_Head.f_Kind), .int .i64 ((rd xc1 s4.1).f_Head.f_Id), .int .i64 ((rd xc1 s4.1).f_Head.f_Adv), .int .i64 ((rd xc1 s4.1).f_Head.f_Seq), .int .i64 ((rd xc1 s4.1).f_Head.f_Sum), .int .i64 ((rd xc1 s4.1).f_Head.f_Len), .int .i64 ((rd xc1 s4.1).f_Flags), .slice A108 t52.length c130, .int .i64 ((rd xc1 s4.1).f_Bits), .slice A109 t53.length c131, .slice A104 ((rd xc1 s4.1).f_Verts).length c126]) HF382 rfl rfl ti29 rfl rfl rfl) ?_
            rintro w178 HF384
            have HF385 := HF384.sublist (sl_dc (sl_da (sl_da (sl_da (sl_a (sl_c (sl_a (sl_a (sl_c (sl_c (sl_c (sl_c (List.Sublist.refl _)))))))))))))
            refine ⟨HF385, ?_⟩
            refine hTake 13 rfl (by kernel_rfl) (pThen (pBlock (pThen (pThen (pBlock (pThen (pThen (pBlock (pThen pNo))))))))) (fun w_ hS_ => fa32_5 rfl) HF385 rfl rfl ?_
            refine h1 14 (by kernel_rfl) rfl ?_
            refine qS rfl gd0 (oSt1 (l1 := [.int .i64 ((rd xc1 s4.1).f_Head.f_Age), .int .i64 ((rd xc1 s4.1).f_Head.f_Kind), .int .i64 ((rd xc1 s4.1).f_Head.f_Id), .int .i64 ((rd xc1 s4.1).f_Head.f_Adv), .int .i64 ((rd xc1 s4.1).f_Head.f_Seq), .int .i64 ((rd xc1 s4.1).f_Head.f_Sum), .int .i64 ((rd xc1 s4.1).f_Head.f_Len), .int .i64 ((rd xc1 s4.1).f_Flags), .slice A108 t52.length c130, .int .i64 ((rd xc1 s4.1).f_Bits), .slice A109 t53.length c131, .slice A110 t54.length c132]) HF384 rfl rfl ti30 rfl rfl rfl) ?_
            rintro w179 HF386
            have HF387 := HF386.sublist (sl_dc (sl_da (sl_da (sl_da (sl_a (sl_c (sl_a (sl_a (sl_c (sl_c (sl_c (sl_c (List.Sublist.refl _)))))))))))))
            refine ⟨HF387, ?_⟩
            refine hEnd (by kernel_rfl) ?_
            refine kN (?_)
            refine hK57 _ _ ?_
            refine rRgn [] trivial rfl ?_
            refine sL (fa38_11 rfl) rfl ?_
            refine sL (ld rfl Try.underlying22 rfl (HF386.box (mem_c (mem_a (mem_a (mem_a (mem_a mem_h))))) rfl)) rfl ?_
            refine sL (ldA (cs := [.int .i64 ((rd xc1 s4.1).f_Head.f_Age), .int .i64 ((rd xc1 s4.1).f_Head.f_Kind), .int .i64 ((rd xc1 s4.1).f_Head.f_Id), .int .i64 ((rd xc1 s4.1).f_Head.f_Adv), .int .i64 ((rd xc1 s4.1).f_Head.f_Seq), .int .i64 ((rd xc1 s4.1).f_Head.f_Sum), .int .i64 ((rd xc1 s4.1).f_Head.f_Len), .int .i64 ((rd xc1 s4.1).f_Flags), .slice A108 t52.length c130, .int .i64 ((rd xc1 s4.1).f_Bits), .slice A109 t53.length c131, .slice A110 t54.length c132]) rfl ti32 rfl rfl (HF386.boxes (o := 0) (n := 12) (mem_h) rfl)) rfl ?_
            have HF388 := HF386.perm (pm_c (pm_a (pm_a (perm_f (perm_c (perm_f (perm_f (perm_c (perm_c (perm_c (perm_c (List.Perm.refl _))))))))).symm)))
            obtain ⟨N31, hN31⟩ : ∃ N_, N_ = L80 ++ N30 := ⟨_, rfl⟩
            have HF389 := HF388; rw [← List.append_assoc L80 N30 F, ← hN31] at HF389
            have hs37 : N30 ++ G ⊆ N31 ++ G := frz_s hN31
            have hz27 : RdS k_T_api_Link (N31 ++ G) A108 c130 t52 := RdS.mono ho80.rd (frz_l hN31)
            have HF390 := HF389.perm (pm_c (pm_a (perm_f (perm_c (perm_f (perm_f (perm_c (perm_c (perm_c (perm_c (List.Perm.refl _))))))))).symm))
            obtain ⟨N32, hN32⟩ : ∃ N_, N_ = L81 ++ N31 := ⟨_, rfl⟩
            have HF391 := HF390; rw [← List.append_assoc L81 N31 F, ← hN32] at HF391
            have hs38 : N31 ++ G ⊆ N32 ++ G := frz_s hN32
            have hz28 : RdS (kInt .i64) (N32 ++ G) A109 c131 t53 := RdS.mono ho81.rd (frz_l hN32)
            have HF392 := HF391.perm (pm_c (perm_f (perm_c (perm_f (perm_f (perm_c (perm_c (perm_c (perm_c (List.Perm.refl _))))))))).symm)
            obtain ⟨N33, hN33⟩ : ∃ N_, N_ = L82 ++ N32 := ⟨_, rfl⟩
            have HF393 := HF392; rw [← List.append_assoc L82 N32 F, ← hN33] at HF393
            have hs39 : N32 ++ G ⊆ N33 ++ G := frz_s hN33
            have hz29 : RdS k_T_api_Vert (N33 ++ G) A110 c132 t54 := RdS.mono ho82.rd (frz_l hN33)
            refine eW (oLit (r := [.int .i64 ((rd xc1 s4.1).f_Head.f_Age), .int .i64 ((rd xc1 s4.1).f_Head.f_Kind), .int .i64 ((rd xc1 s4.1).f_Head.f_Id), .int .i64 ((rd xc1 s4.1).f_Head.f_Adv), .int .i64 ((rd xc1 s4.1).f_Head.f_Seq), .int .i64 ((rd xc1 s4.1).f_Head.f_Sum), .int .i64 ((rd xc1 s4.1).f_Head.f_Len), .int .i64 ((rd xc1 s4.1).f_Flags), .slice A108 t52.length c130, .int .i64 ((rd xc1 s4.1).f_Bits), .slice A109 t53.length c131, .slice A110 t54.length c132]) (kShr (N33 ++ G) k_T_api_Lsa) [(⟨(⟨(rd xc1 s4.1).f_Head.f_Age, (rd xc1 s4.1).f_Head.f_Kind, (rd xc1 s4.1).f_Head.f_Id, (rd xc1 s4.1).f_Head.f_Adv, (rd xc1 s4.1).f_Head.f_Seq, (rd xc1 s4.1).f_Head.f_Sum, (rd xc1 s4.1).f_Head.f_Len⟩ : T_api_Head), (rd xc1 s4.1).f_Flags, t52, (rd xc1 s4.1).f_Bits, t53, t54⟩ : T_api_Lsa)] HF393 Try.underlying22 ti32 rfl rfl rfl rfl ⟨[], [], [.int .i64 ((rd xc1 s4.1).f_Head.f_Age), .int .i64 ((rd xc1 s4.1).f_Head.f_Kind), .int .i64 ((rd xc1 s4.1).f_Head.f_Id), .int .i64 ((rd xc1 s4.1).f_Head.f_Adv), .int .i64 ((rd xc1 s4.1).f_Head.f_Seq), .int .i64 ((rd xc1 s4.1).f_Head.f_Sum), .int .i64 ((rd xc1 s4.1).f_Head.f_Len), .int .i64 ((rd xc1 s4.1).f_Flags), .slice A108 t52.length c130, .int .i64 ((rd xc1 s4.1).f_Bits), .slice A109 t53.length c131, .slice A110 t54.length c132], _, rfl, rfl, ⟨rfl, mk_T_api_Lsa (x := (⟨(⟨(rd xc1 s4.1).f_Head.f_Age, (rd xc1 s4.1).f_Head.f_Kind, (rd xc1 s4.1).f_Head.f_Id, (rd xc1 s4.1).f_Head.f_Adv, (rd xc1 s4.1).f_Head.f_Seq, (rd xc1 s4.1).f_Head.f_Sum, (rd xc1 s4.1).f_Head.f_Len⟩ : T_api_Head), (rd xc1 s4.1).f_Flags, t52, (rd xc1 s4.1).f_Bits, t53, t54⟩ : T_api_Lsa)) ((RdS.mono hz27 (sub_t hs38 hs39))) ((RdS.mono hz28 hs39)) (hz29)⟩, ⟨rfl, rfl⟩⟩ rfl rfl) rfl ?_
            rintro _ w180 ⟨L83, A111, c133, rfl, HF394, ho83⟩
            replace H := chk H; obtain ⟨c134, H⟩ := H
            have HF395 := HF394.perm (perm_f (perm_c (List.Perm.refl _)))
            refine eW (oApp (xs := s4.2) (ys := ([(⟨(⟨(rd xc1 s4.1).f_Head.f_Age, (rd xc1 s4.1).f_Head.f_Kind, (rd xc1 s4.1).f_Head.f_Id, (rd xc1 s4.1).f_Head.f_Adv, (rd xc1 s4.1).f_Head.f_Seq, (rd xc1 s4.1).f_Head.f_Sum, (rd xc1 s4.1).f_Head.f_Len⟩ : T_api_Head), (rd xc1 s4.1).f_Flags, t52, (rd xc1 s4.1).f_Bits, t53, t54⟩ : T_api_Lsa)])) (kShr (N33 ++ G) k_T_api_Lsa) HF395 rfl rfl Try.underlying22 Try.underlying22 ti32 rfl (OwnS.lift hr30 (sub_t hs37 (sub_t hs38 hs39))) (srcR shrS ho83.rd HF395 (sub_a sub_h)) c134 rfl) rfl ?_
            rintro _ w181 ⟨L84, A112, c135, rfl, HF396, ho84⟩
            refine sL (fa38_11 rfl) rfl ?_
            have HF397 := HF396.perm (perm_f1 (perm_f1 (perm_c1 (List.Perm.refl _))))
            refine eS (oSt1 (l1 := [.int .i64 4, .int .i64 a0, .int .i64 0, .int .i64 0, .int .i64 0, .int .i64 0, .slice none 0 0, .int .i64 0, .int .i64 0, .slice none 0 0, .slice none 0 0, .slice A112 (s4.2 ++ [(⟨(⟨(rd xc1 s4.1).f_Head.f_Age, (rd xc1 s4.1).f_Head.f_Kind, (rd xc1 s4.1).f_Head.f_Id, (rd xc1 s4.1).f_Head.f_Adv, (rd xc1 s4.1).f_Head.f_Seq, (rd xc1 s4.1).f_Head.f_Sum, (rd xc1 s4.1).f_Head.f_Len⟩ : T_api_Head), (rd xc1 s4.1).f_Flags, t52, (rd xc1 s4.1).f_Bits, t53, t54⟩ : T_api_Lsa)]).length c135]) HF397 rfl rfl ti22 rfl rfl rfl) ?_
            rintro w182 HF398
            refine lEnd (K := fun _ _ => True) ?_
            refine jN (kN (?_))
            refine hK55 _ _ ?_
            refine rRgn [] trivial rfl ?_
            refine sL (bAdd rfl rfl) rfl ?_
            refine sL (mv rfl) rfl ?_
            refine lEnd (K := fun _ _ => True) ?_
            refine kN (?_)
            have hs40 : (N33 ++ G) ⊆ ((L82 ++ (L81 ++ (L80 ++ D8))) ++ (D6 ++ G)) := by rw [hN33, hN32, hN31, hN30]; simp only [List.append_assoc]; exact sub_r
            have HF399 := HF398.sublist (sl_c (sl_a (sl_da (sl_dc (sl_a (sl_a (sl_c (sl_c (sl_c (sl_c (List.Sublist.refl _)))))))))))
            have HF400 := HF399.perm (perm_c1 (perm_f1 (perm_f1 (perm_f1 (perm_c1 (perm_c1 (perm_c1 (List.Perm.refl _))))))))
            have HF401 := HF400.perm (perm_c1 (perm_c1 (perm_f1 (perm_f1 (perm_f1 (perm_c1 (perm_c1 (List.Perm.refl _))))))))
            have HF402 := HF401.perm (perm_c1 (perm_c1 (perm_c1 (perm_f1 (perm_f1 (perm_f1 (perm_c1 (List.Perm.refl _))))))))
            have HF403 := HF402.perm (perm_c1 (perm_c1 (perm_c1 (perm_c1 (perm_f1 (perm_f1 (perm_f1 (List.Perm.refl _))))))))
            have HF404 := HF403.perm (perm_c (perm_c (perm_c (perm_c (perm_c (perm_f (perm_f (List.Perm.refl _))))))))
            have HF405 := HF404.perm (perm_f (perm_c (perm_c (perm_c (perm_c (perm_c (perm_f (List.Perm.refl _))))))))
            have HF406 := HF405.perm (perm_f1 (perm_f1 (perm_c1 (perm_c1 (perm_c1 (perm_c1 (List.Perm.refl _)))))))
            have HF407 := HF406.perm (perm_c (perm_f (perm_f (perm_c (perm_c (perm_c (perm_c (List.Perm.refl _))))))))
            have HF408 := Fits.conv (L' := (L84 ++ (bk g19 38 [.int .i64 4, .int .i64 a0, .int .i64 0, .int .i64 0, .int .i64 0, .int .i64 0, .slice none 0 0, .int .i64 0, .int .i64 0, .slice none 0 0, .slice none 0 0, .slice A112 (s4.2 ++ [(⟨(⟨(rd xc1 s4.1).f_Head.f_Age, (rd xc1 s4.1).f_Head.f_Kind, (rd xc1 s4.1).f_Head.f_Id, (rd xc1 s4.1).f_Head.f_Adv, (rd xc1 s4.1).f_Head.f_Seq, (rd xc1 s4.1).f_Head.f_Sum, (rd xc1 s4.1).f_Head.f_Len⟩ : T_api_Head), (rd xc1 s4.1).f_Flags, t52, (rd xc1 s4.1).f_Bits, t53, t54⟩ : T_api_Lsa)]).length c135] :: (M_ ++ (L58 ++ (bk g3 22 [.slice A_a1 a1.length c_a1] :: (bk g4 3 [.int .i64 4] :: (bk g2 33 [.slice A77 s3.length c93] :: (bk g1 3 [.int .i64 a0] :: ((L82 ++ (L81 ++ (L80 ++ D8))) ++ (D6 ++ F))))))))))) HF407 (by rw [hN33, hN32, hN31, hN30]; simp only [List.append_assoc])
            exact ofEnv (fun a hE => ⟨_, (Option.some.inj H).symm, ⟨(L82 ++ (L81 ++ (L80 ++ D8))), _, _, L84, hE.keep (Keep.cons rfl (Keep.cons rfl (Keep.cons rfl (Keep.cons rfl (Keep.cons rfl (Keep.cons rfl (Keep.cons rfl (Keep.cons rfl (Keep.nil))))))))), HF408, (OwnS.lift ho84 hs40)⟩⟩)
      · replace H := itF c122 H
        refine rSet (i := 18) rfl (dF c122) ?_
        refine rF rfl ?_
        refine rExit ?_
        refine kX (kX (jX (kN (?_))))
        have hs41 : (N30 ++ G) ⊆ ((D8) ++ (D6 ++ G)) := by rw [hN30]; simp only [List.append_assoc]; exact sub_r
        have HF409 := Fits.conv (L' := (L76 ++ (bk g19 38 [.int .i64 4, .int .i64 a0, .int .i64 0, .int .i64 0, .int .i64 0, .int .i64 0, .slice none 0 0, .int .i64 0, .int .i64 0, .slice none 0 0, .slice none 0 0, .slice A101 s4.2.length c121] :: (M_ ++ (L58 ++ (bk g3 22 [.slice A_a1 a1.length c_a1] :: (bk g4 3 [.int .i64 4] :: (bk g2 33 [.slice A77 s3.length c93] :: (bk g1 3 [.int .i64 a0] :: ((D8) ++ (D6 ++ F))))))))))) HF357 (by rw [hN30]; simp only [List.append_assoc])
        exact ofEnv (fun a hE => ⟨_, (Option.some.inj H).symm, ⟨(D8), _, _, L76, hE.keep (Keep.cons rfl (Keep.cons rfl (Keep.cons rfl (Keep.cons rfl (Keep.cons rfl (Keep.cons rfl (Keep.cons rfl (Keep.cons rfl (Keep.nil))))))))), HF409, (OwnS.lift hr30 hs41)⟩⟩)
    · rintro s4 a w183 rfl ⟨D8, A101, c121, L76, hE, HF410, ho76⟩
      replace H := Ho3
      refine go_k hE ?_
      obtain ⟨N34, hN34⟩ : ∃ N_, N_ = D8 ++ D6 := ⟨_, rfl⟩
      have HF411 := HF410; rw [← List.append_assoc D8 D6 F, ← hN34] at HF411
      have hs42 : D6 ++ G ⊆ N34 ++ G := frz_s hN34
      have hr34 := OwnS.lift (G' := (N34 ++ G)) ho76 (frz_c hN34)
      refine kN (?_)
      refine hK41 _ _ ?_
      refine rRgn [] trivial rfl ?_
      refine sL (ld rfl Try.underlying33 rfl (HF411.box (mem_a (mem_c (mem_a (mem_a (mem_c (mem_c mem_h)))))) rfl)) rfl ?_
      refine sL (ldA (cs := [.int .i64 4, .int .i64 a0, .int .i64 0, .int .i64 0, .int .i64 0, .int .i64 0, .slice none 0 0, .int .i64 0, .int .i64 0, .slice none 0 0, .slice none 0 0, .slice A101 s4.2.length c121]) rfl ti38 rfl rfl (HF411.boxes (o := 0) (n := 12) (mem_a mem_h) rfl)) rfl ?_
      have HF412 := HF411.perm (perm_c (perm_f (perm_f (perm_c (perm_c (perm_c (perm_c (List.Perm.refl _)))))))).symm
      obtain ⟨N35, hN35⟩ : ∃ N_, N_ = L76 ++ N34 := ⟨_, rfl⟩
      have HF413 := HF412; rw [← List.append_assoc L76 N34 F, ← hN35] at HF413
      have hs43 : N34 ++ G ⊆ N35 ++ G := frz_s hN35
      have hz30 : RdS (kShr (N35 ++ G) k_T_api_Lsa) (N35 ++ G) A101 c121 s4.2 := RdS.lift hr34.rd hs43 (frz_l hN35)
      refine eW (oLit (r := [.int .i64 4, .int .i64 a0, .int .i64 0, .int .i64 0, .int .i64 0, .int .i64 0, .slice none 0 0, .int .i64 0, .int .i64 0, .slice none 0 0, .slice none 0 0, .slice A101 s4.2.length c121]) (kShr (N35 ++ G) k_T_api_Packet) [(⟨4, a0, 0, 0, 0, 0, [], 0, 0, [], [], s4.2⟩ : T_api_Packet)] HF413 Try.underlying33 ti38 rfl rfl rfl rfl ⟨[], [], [.int .i64 4, .int .i64 a0, .int .i64 0, .int .i64 0, .int .i64 0, .int .i64 0, .slice none 0 0, .int .i64 0, .int .i64 0, .slice none 0 0, .slice none 0 0, .slice A101 s4.2.length c121], _, rfl, rfl, ⟨rfl, mk_T_api_Packet (x := (⟨4, a0, 0, 0, 0, 0, [], 0, 0, [], [], s4.2⟩ : T_api_Packet)) (RdS.nil) (RdS.nil) (RdS.nil) (hz30)⟩, ⟨rfl, rfl⟩⟩ rfl rfl) rfl ?_
      rintro _ w184 ⟨L85, A113, c136, rfl, HF414, ho85⟩
      replace H := chk H; obtain ⟨c137, H⟩ := H
      have HF415 := HF414.perm (perm_f (perm_c (perm_f (List.Perm.refl _))))
      refine eW (oApp (xs := s3) (ys := ([(⟨4, a0, 0, 0, 0, 0, [], 0, 0, [], [], s4.2⟩ : T_api_Packet)])) (kShr (N35 ++ G) k_T_api_Packet) HF415 rfl rfl Try.underlying33 Try.underlying33 ti38 rfl (OwnS.lift ho58 (sub_t hs42 hs43)) (srcR shrS ho85.rd HF415 (sub_a sub_h)) c137 rfl) rfl ?_
      rintro _ w185 ⟨L86, A114, c138, rfl, HF416, ho86⟩
      have HF417 := HF416.perm (perm_f1 (perm_f1 (perm_c1 (perm_f1 (perm_c1 (perm_c1 (List.Perm.refl _)))))))
      refine eS (oSt1 (l1 := [.slice A114 (s3 ++ [(⟨4, a0, 0, 0, 0, 0, [], 0, 0, [], [], s4.2⟩ : T_api_Packet)]).length c138]) HF417 rfl rfl ti33 rfl rfl rfl) ?_
      rintro w186 HF418
      refine lEnd (K := fun _ _ => True) ?_
      refine jN (kN (?_))
      have HF419 := HF418.sublist (sl_c (sl_a (sl_da (sl_dc (sl_a (sl_c (sl_c (sl_c (List.Sublist.refl _)))))))))
      have HF420 := HF419.perm (perm_c1 (perm_f1 (perm_f1 (perm_c1 (perm_c1 (List.Perm.refl _))))))
      have HF421 := HF420.perm (perm_c1 (List.Perm.refl _))
      have HF422 := HF421.perm (perm_c1 (perm_c1 (perm_f1 (perm_f1 (perm_c1 (List.Perm.refl _))))))
      have HF423 := HF422.perm (perm_c1 (perm_c1 (perm_c1 (perm_f1 (perm_f1 (List.Perm.refl _))))))
      have HF424 := HF423.perm (perm_c (perm_c (perm_c (perm_c (List.Perm.refl _)))))
      have HF425 := HF424.perm (perm_f (perm_c (perm_c (perm_c (perm_c (List.Perm.refl _))))))
      obtain rfl := Option.some.inj H
      exact ofEnv (fun a hE => ⟨N35, _, _, L86, HF425, ho86⟩)
  · rintro D9 w_ ⟨D6, A77, c93, L58, HF427, ho58⟩
    replace H := Ho4
    have hs44 : G ⊆ D6 ++ G := sub_a sub_r
    refine sL (ld rfl Try.underlying33 rfl (HF427.box (mem_a (mem_a (mem_c (mem_c mem_h)))) rfl)) rfl ?_
    refine sL (asg rfl) rfl ?_
    refine lEnd (K := fun _ _ => True) ?_
    obtain rfl := Option.some.inj H
    have HF428 := HF427.sublist (sl_a (sl_a (sl_dc (sl_dc (sl_dc (sl_dc (List.Sublist.refl _)))))))
    refine tl1 rfl rfl HF428 (fun w_ HFe_ => ?_)
    exact ⟨D6, _, _, L58, rfl, HFe_, ho58⟩
/-! ### plenum/plenumlaw14.awake (function 5) -/
abbrev f_plenumlaw14_awake.R := Bool
noncomputable def f_plenumlaw14_awake : Option f_plenumlaw14_awake.R := ((f_answer_Updates 1 (List.replicate (5 : Int).toNat (⟨(⟨0, 0, 0, 0, 0, 0, 0⟩ : T_api_Head), 0, [], 0, [], []⟩ : T_api_Lsa))).bind fun t1 => (if (t1.length : Int) = 2 then (if 0 < (t1.length : Int) then (if (((rd t1 0).f_Lsas).length : Int) = 4 then (if 1 < (t1.length : Int) then some (decide ((((rd t1 1).f_Lsas).length : Int) = 1)) else none) else some false) else none) else some false))
set_option maxHeartbeats 1000000 in
theorem f_plenumlaw14_awake.ok {z w : World} {F G : Hp} (hG : G ⊆ F) {r : f_plenumlaw14_awake.R} (H : f_plenumlaw14_awake = some r) (HF : Fits z w F) :
    Calls Try.prog 5 [].toArray w fun e w' => e = .returned (.bool r) ∧ Fits z w' F := by
  unfold f_plenumlaw14_awake at H
  refine enter0 Try.func5 rfl Try.ntmps5 rfl (E := []) rfl ?_
  refine cSeq (fun K1 hK1 => ?_)
  refine cRgn [] trivial ?_
  refine sL (asg rfl) rfl ?_
  refine lEnd (K := fun _ _ => True) ?_
  refine kN (?_)
  refine hK1 _ _ ?_
  refine cSeq (fun K2 hK2 => ?_)
  refine cRgn [] trivial ?_
  refine eW (oMake (K := (kShr G k_T_api_Lsa)) (d := (⟨(⟨0, 0, 0, 0, 0, 0, 0⟩ : T_api_Head), 0, [], 0, [], []⟩ : T_api_Lsa)) HF rfl rfl Try.underlying22 ti32 rfl rfl ⟨rfl, mk_T_api_Lsa (x := (⟨(⟨0, 0, 0, 0, 0, 0, 0⟩ : T_api_Head), 0, [], 0, [], []⟩ : T_api_Lsa)) RdS.nil RdS.nil RdS.nil⟩ (by decide) (by decide) (by decide) (by decide)) rfl ?_
  rintro _ w1 ⟨L1, A1, c1, rfl, HF1, ho1⟩
  replace H := bnd H; obtain ⟨t1, J1, H⟩ := H
  refine eCall isf7 rfl rfl rfl (f_answer_Updates.ok (a1 := (List.replicate (5 : Int).toNat (⟨(⟨0, 0, 0, 0, 0, 0, 0⟩ : T_api_Head), 0, [], 0, [], []⟩ : T_api_Lsa))) (sub_a hG) J1 HF1 sub_h ho1.rd) ?_
  rintro _ w2 ⟨N1, A2, c2, L2, rfl, HF2, ho2⟩
  have HF3 := HF2.perm (pm_a (perm_f (List.Perm.refl _)).symm)
  have hs1 : G ⊆ N1 ++ G := sub_a sub_r
  refine ⟨_, rfl, ?_⟩
  refine sL (asg rfl) rfl ?_
  refine lEnd (K := fun _ _ => True) ?_
  refine kN (?_)
  refine hK2 _ _ ?_
  refine cSeq (fun K3 hK3 => ?_)
  refine cRgn [(3, 7), (11, 15)] ⟨rfl, rfl, trivial⟩ ?_
  refine sL (mv rfl) rfl ?_
  refine sL (lnS rfl Try.underlying33) rfl ?_
  refine sL (bEql rfl rfl) rfl ?_
  refine sL (mv rfl) rfl ?_
  by_cases c3 : (t1.length : Int) = 2
  · replace H := itT c3 H
    refine lSet (i := 7) rfl (dT c3) ?_
    refine sG rfl rfl (mv rfl) rfl ?_
    replace H := chk H; obtain ⟨c4, H⟩ := H
    obtain ⟨g1, o1, e2, rfl, hk1, q1⟩ := RdS.at_ ho2.rd (by decide) c4
    obtain ⟨A3, c5, A4, c6, A5, c7, A6, c8, rfl, hr1, hr2, hr3, hr4⟩ := rd_T_api_Packet hk1
    refine sG rfl rfl (ia rfl rfl Try.underlying33 ti38 (by decide) c4) rfl ?_
    refine sG rfl rfl (fa38_11 rfl) rfl ?_
    refine sG rfl rfl (ld rfl Try.underlying22 rfl (HF3.cells (sub_h) (q1 11 _ rfl))) rfl ?_
    refine sG rfl rfl (lnS rfl Try.underlying22) rfl ?_
    refine sG rfl rfl (bEql rfl rfl) rfl ?_
    refine sL (pkT rfl rfl) rfl ?_
    refine sL (mv rfl) rfl ?_
    by_cases c9 : (((rd t1 0).f_Lsas).length : Int) = 4
    · replace H := itT c9 H
      refine lSet (i := 15) rfl (dT c9) ?_
      refine sG rfl rfl (mv rfl) rfl ?_
      replace H := chk H; obtain ⟨c10, H⟩ := H
      obtain ⟨e4, hk2, q2⟩ := RdS.at' ho2.rd (by decide) c10
      obtain ⟨A7, c11, A8, c12, A9, c13, A10, c14, rfl, hr5, hr6, hr7, hr8⟩ := rd_T_api_Packet hk2
      refine sG rfl rfl (ia rfl rfl Try.underlying33 ti38 (by decide) c10) rfl ?_
      refine sG rfl rfl (fa38_11 rfl) rfl ?_
      refine sG rfl rfl (ld rfl Try.underlying22 rfl (HF3.cells (sub_h) (q2 11 _ rfl))) rfl ?_
      refine sG rfl rfl (lnS rfl Try.underlying22) rfl ?_
      refine sG rfl rfl (bEql rfl rfl) rfl ?_
      refine sL (pkT rfl rfl) rfl ?_
      refine sL (asg rfl) rfl ?_
      refine lEnd (K := fun _ _ => True) ?_
      refine kN (?_)
      refine hK3 _ _ ?_
      refine cRet ?_
      obtain rfl := Option.some.inj H
      refine ret1 rfl rfl ?_
      have HF4 := HF3.sublist (sl_da (sl_da (List.Sublist.refl _)))
      have HF6 := HF4.sublist (sl_da (List.Sublist.refl _))
      exact ⟨rfl, HF6⟩
    · replace H := itF c9 H
      refine lSet (i := 15) rfl (dF c9) ?_
      refine sN rfl rfl rfl rfl ?_
      refine sN rfl rfl rfl rfl ?_
      refine sN rfl rfl rfl rfl ?_
      refine sN rfl rfl rfl rfl ?_
      refine sN rfl rfl rfl rfl ?_
      refine sN rfl rfl rfl rfl ?_
      refine sL (pkF rfl rfl) rfl ?_
      refine sL (asg rfl) rfl ?_
      refine lEnd (K := fun _ _ => True) ?_
      refine kN (?_)
      refine hK3 _ _ ?_
      refine cRet ?_
      obtain rfl := Option.some.inj H
      refine ret1 rfl rfl ?_
      have HF7 := HF3.sublist (sl_da (sl_da (List.Sublist.refl _)))
      have HF9 := HF7.sublist (sl_da (List.Sublist.refl _))
      exact ⟨rfl, HF9⟩
  · replace H := itF c3 H
    refine lSet (i := 7) rfl (dF c3) ?_
    refine sN rfl rfl rfl rfl ?_
    refine sN rfl rfl rfl rfl ?_
    refine sN rfl rfl rfl rfl ?_
    refine sN rfl rfl rfl rfl ?_
    refine sN rfl rfl rfl rfl ?_
    refine sN rfl rfl rfl rfl ?_
    refine sL (pkF rfl rfl) rfl ?_
    refine sL (mv rfl) rfl ?_
    refine sN rfl rfl rfl rfl ?_
    refine sN rfl rfl rfl rfl ?_
    refine sN rfl rfl rfl rfl ?_
    refine sN rfl rfl rfl rfl ?_
    refine sN rfl rfl rfl rfl ?_
    refine sN rfl rfl rfl rfl ?_
    refine sL (pkF rfl rfl) rfl ?_
    refine sL (asg rfl) rfl ?_
    refine lEnd (K := fun _ _ => True) ?_
    refine kN (?_)
    refine hK3 _ _ ?_
    refine cRet ?_
    obtain rfl := Option.some.inj H
    refine ret1 rfl rfl ?_
    have HF10 := HF3.sublist (sl_da (sl_da (List.Sublist.refl _)))
    have HF12 := HF10.sublist (sl_da (List.Sublist.refl _))
    exact ⟨rfl, HF12⟩
/-! ### plenum/plenumlaw14.OwedNil (function 4) -/
abbrev f_plenumlaw14_OwedNil.R := Bool
noncomputable def f_plenumlaw14_OwedNil (a0 : T_api_Head) (a1 : T_api_Key) : Option f_plenumlaw14_OwedNil.R := ((f_answer_Owed_Add_nil a0).bind fun _ => ((f_answer_Owed_Clear_nil).bind fun _ => ((f_answer_Owed_Ack_nil a0).bind fun t1 => (if t1 = true then some false else ((f_answer_Owed_Drop_nil a1).bind fun t2 => (if t2 = true then some false else ((f_answer_Owed_Has_nil a1).bind fun t3 => (if t3 = true then some false else ((f_answer_Owed_Len_nil).bind fun t4 => (if t4 = 0 then ((f_answer_Owed_Tick_nil_nil).bind fun t5 => (if (t5.length : Int) = 0 then ((f_plenumlaw14_awake).bind fun t6 => some t6) else some false)) else some false))))))))))
set_option maxHeartbeats 1000000 in
theorem f_plenumlaw14_OwedNil.ok {z w : World} {F G : Hp} (hG : G ⊆ F) {a0 : T_api_Head} {a1 : T_api_Key} {r : f_plenumlaw14_OwedNil.R} (H : f_plenumlaw14_OwedNil a0 a1 = some r) (HF : Fits z w F) :
    Calls Try.prog 4 [.agg [.int .i64 a0.f_Age, .int .i64 a0.f_Kind, .int .i64 a0.f_Id, .int .i64 a0.f_Adv, .int .i64 a0.f_Seq, .int .i64 a0.f_Sum, .int .i64 a0.f_Len].toArray, .agg [.int .i64 a1.f_Kind, .int .i64 a1.f_Id, .int .i64 a1.f_Adv].toArray].toArray w fun e w' => e = .returned (.bool r) ∧ Fits z w' F := by
  unfold f_plenumlaw14_OwedNil at H
  refine enter0 Try.func4 rfl Try.ntmps4 rfl (E := [(0, .agg [.int .i64 a0.f_Age, .int .i64 a0.f_Kind, .int .i64 a0.f_Id, .int .i64 a0.f_Adv, .int .i64 a0.f_Seq, .int .i64 a0.f_Sum, .int .i64 a0.f_Len].toArray), (1, .agg [.int .i64 a1.f_Kind, .int .i64 a1.f_Id, .int .i64 a1.f_Adv].toArray)]) rfl ?_
  refine cSeq (fun K1 hK1 => ?_)
  refine cRgn [] trivial ?_
  refine eW (oBox HF rfl) rfl ?_
  rintro _ w1 ⟨g1, rfl, HF1⟩
  refine eW (oBox HF1 rfl) rfl ?_
  rintro _ w2 ⟨g2, rfl, HF2⟩
  refine sL (asg rfl) rfl ?_
  refine lEnd (K := fun _ _ => True) ?_
  refine kN (?_)
  refine hK1 _ _ ?_
  refine cSeq (fun K2 hK2 => ?_)
  refine cRgn [] trivial ?_
  refine sL (asg rfl) rfl ?_
  refine lEnd (K := fun _ _ => True) ?_
  refine kN (?_)
  refine hK2 _ _ ?_
  refine cSeq (fun K3 hK3 => ?_)
  refine cRgn [] trivial ?_
  refine sL (asg rfl) rfl ?_
  refine lEnd (K := fun _ _ => True) ?_
  refine kN (?_)
  refine hK3 _ _ ?_
  refine cSeq (fun K4 hK4 => ?_)
  refine cRgn [] trivial ?_
  refine sL (mv rfl) rfl ?_
  refine sL (ldA (cs := [.int .i64 a0.f_Age, .int .i64 a0.f_Kind, .int .i64 a0.f_Id, .int .i64 a0.f_Adv, .int .i64 a0.f_Seq, .int .i64 a0.f_Sum, .int .i64 a0.f_Len]) rfl ti27 rfl rfl (HF2.boxes (o := 0) (n := 7) (mem_c mem_h) rfl)) rfl ?_
  replace H := bnd H; obtain ⟨⟨⟩, J1, H⟩ := H
  refine eCall isf11 rfl rfl rfl (f_answer_Owed_Add_nil.ok (a1 := a0) J1 HF2) ?_
  rintro _ w3 ⟨rfl, HF3⟩
  refine ⟨_, rfl, ?_⟩
  refine lEnd (K := fun _ _ => True) ?_
  refine kN (?_)
  refine hK4 _ _ ?_
  refine cSeq (fun K5 hK5 => ?_)
  refine cRgn [] trivial ?_
  refine sL (mv rfl) rfl ?_
  replace H := bnd H; obtain ⟨⟨⟩, J2, H⟩ := H
  refine eCall isf12 rfl rfl rfl (f_answer_Owed_Clear_nil.ok J2 HF3) ?_
  rintro _ w4 ⟨rfl, HF4⟩
  refine ⟨_, rfl, ?_⟩
  refine lEnd (K := fun _ _ => True) ?_
  refine kN (?_)
  refine hK5 _ _ ?_
  refine cSeq (fun K6 hK6 => ?_)
  refine cRgn [(4, 16), (10, 22), (16, 28), (21, 33), (28, 40)] ⟨rfl, rfl, rfl, rfl, rfl, trivial⟩ ?_
  refine sL (mv rfl) rfl ?_
  refine sL (ldA (cs := [.int .i64 a0.f_Age, .int .i64 a0.f_Kind, .int .i64 a0.f_Id, .int .i64 a0.f_Adv, .int .i64 a0.f_Seq, .int .i64 a0.f_Sum, .int .i64 a0.f_Len]) rfl ti27 rfl rfl (HF4.boxes (o := 0) (n := 7) (mem_c mem_h) rfl)) rfl ?_
  replace H := bnd H; obtain ⟨t1, J3, H⟩ := H
  refine eCall isf13 rfl rfl rfl (f_answer_Owed_Ack_nil.ok (a1 := a0) J3 HF4) ?_
  rintro _ w5 ⟨rfl, HF5⟩
  refine ⟨_, rfl, ?_⟩
  refine sL (uNot rfl) rfl ?_
  refine sL (mv rfl) rfl ?_
  by_cases c1 : t1 = true
  · replace H := itT c1 H
    refine lSet (i := 16) rfl (wF c1) ?_
    refine sN rfl rfl rfl rfl ?_
    refine sN rfl rfl rfl rfl ?_
    refine sN rfl rfl rfl rfl ?_
    refine sN rfl rfl rfl rfl ?_
    refine sL (pkF rfl rfl) rfl ?_
    refine sL (mv rfl) rfl ?_
    refine sN rfl rfl rfl rfl ?_
    refine sN rfl rfl rfl rfl ?_
    refine sN rfl rfl rfl rfl ?_
    refine sN rfl rfl rfl rfl ?_
    refine sL (pkF rfl rfl) rfl ?_
    refine sL (mv rfl) rfl ?_
    refine sN rfl rfl rfl rfl ?_
    refine sN rfl rfl rfl rfl ?_
    refine sN rfl rfl rfl rfl ?_
    refine sL (pkF rfl rfl) rfl ?_
    refine sL (mv rfl) rfl ?_
    refine sN rfl rfl rfl rfl ?_
    refine sN rfl rfl rfl rfl ?_
    refine sN rfl rfl rfl rfl ?_
    refine sN rfl rfl rfl rfl ?_
    refine sN rfl rfl rfl rfl ?_
    refine sL (pkF rfl rfl) rfl ?_
    refine sL (mv rfl) rfl ?_
    refine sN rfl rfl rfl rfl ?_
    refine sL (pkF rfl rfl) rfl ?_
    refine sL (asg rfl) rfl ?_
    refine lEnd (K := fun _ _ => True) ?_
    refine kN (?_)
    refine hK6 _ _ ?_
    refine cRet ?_
    obtain rfl := Option.some.inj H
    refine ret1 rfl rfl ?_
    have HF6 := HF5.sublist (sl_dc (sl_dc (List.Sublist.refl _)))
    exact ⟨rfl, HF6⟩
  · replace H := itF c1 H
    refine lSet (i := 16) rfl (wT c1) ?_
    refine sG rfl rfl (mv rfl) rfl ?_
    refine sG rfl rfl (ldA (cs := [.int .i64 a1.f_Kind, .int .i64 a1.f_Id, .int .i64 a1.f_Adv]) rfl ti43 rfl rfl (HF5.boxes (o := 0) (n := 3) (mem_h) rfl)) rfl ?_
    replace H := bnd H; obtain ⟨t2, J4, H⟩ := H
    refine eCallG rfl rfl isf14 rfl rfl rfl (f_answer_Owed_Drop_nil.ok (a1 := a1) J4 HF5) ?_
    rintro _ w6 ⟨rfl, HF7⟩
    refine ⟨_, rfl, ?_⟩
    refine sG rfl rfl (uNot rfl) rfl ?_
    refine sL (pkT rfl rfl) rfl ?_
    refine sL (mv rfl) rfl ?_
    by_cases c2 : t2 = true
    · replace H := itT c2 H
      refine lSet (i := 22) rfl (wF c2) ?_
      refine sN rfl rfl rfl rfl ?_
      refine sN rfl rfl rfl rfl ?_
      refine sN rfl rfl rfl rfl ?_
      refine sN rfl rfl rfl rfl ?_
      refine sL (pkF rfl rfl) rfl ?_
      refine sL (mv rfl) rfl ?_
      refine sN rfl rfl rfl rfl ?_
      refine sN rfl rfl rfl rfl ?_
      refine sN rfl rfl rfl rfl ?_
      refine sL (pkF rfl rfl) rfl ?_
      refine sL (mv rfl) rfl ?_
      refine sN rfl rfl rfl rfl ?_
      refine sN rfl rfl rfl rfl ?_
      refine sN rfl rfl rfl rfl ?_
      refine sN rfl rfl rfl rfl ?_
      refine sN rfl rfl rfl rfl ?_
      refine sL (pkF rfl rfl) rfl ?_
      refine sL (mv rfl) rfl ?_
      refine sN rfl rfl rfl rfl ?_
      refine sL (pkF rfl rfl) rfl ?_
      refine sL (asg rfl) rfl ?_
      refine lEnd (K := fun _ _ => True) ?_
      refine kN (?_)
      refine hK6 _ _ ?_
      refine cRet ?_
      obtain rfl := Option.some.inj H
      refine ret1 rfl rfl ?_
      have HF8 := HF7.sublist (sl_dc (sl_dc (List.Sublist.refl _)))
      exact ⟨rfl, HF8⟩
    · replace H := itF c2 H
      refine lSet (i := 22) rfl (wT c2) ?_
      refine sG rfl rfl (mv rfl) rfl ?_
      refine sG rfl rfl (ldA (cs := [.int .i64 a1.f_Kind, .int .i64 a1.f_Id, .int .i64 a1.f_Adv]) rfl ti43 rfl rfl (HF7.boxes (o := 0) (n := 3) (mem_h) rfl)) rfl ?_
      replace H := bnd H; obtain ⟨t3, J5, H⟩ := H
      refine eCallG rfl rfl isf15 rfl rfl rfl (f_answer_Owed_Has_nil.ok (a1 := a1) J5 HF7) ?_
      rintro _ w7 ⟨rfl, HF9⟩
      refine ⟨_, rfl, ?_⟩
      refine sG rfl rfl (uNot rfl) rfl ?_
      refine sL (pkT rfl rfl) rfl ?_
      refine sL (mv rfl) rfl ?_
      by_cases c3 : t3 = true
      · replace H := itT c3 H
        refine lSet (i := 28) rfl (wF c3) ?_
        refine sN rfl rfl rfl rfl ?_
        refine sN rfl rfl rfl rfl ?_
        refine sN rfl rfl rfl rfl ?_
        refine sL (pkF rfl rfl) rfl ?_
        refine sL (mv rfl) rfl ?_
        refine sN rfl rfl rfl rfl ?_
        refine sN rfl rfl rfl rfl ?_
        refine sN rfl rfl rfl rfl ?_
        refine sN rfl rfl rfl rfl ?_
        refine sN rfl rfl rfl rfl ?_
        refine sL (pkF rfl rfl) rfl ?_
        refine sL (mv rfl) rfl ?_
        refine sN rfl rfl rfl rfl ?_
        refine sL (pkF rfl rfl) rfl ?_
        refine sL (asg rfl) rfl ?_
        refine lEnd (K := fun _ _ => True) ?_
        refine kN (?_)
        refine hK6 _ _ ?_
        refine cRet ?_
        obtain rfl := Option.some.inj H
        refine ret1 rfl rfl ?_
        have HF10 := HF9.sublist (sl_dc (sl_dc (List.Sublist.refl _)))
        exact ⟨rfl, HF10⟩
      · replace H := itF c3 H
        refine lSet (i := 28) rfl (wT c3) ?_
        refine sG rfl rfl (mv rfl) rfl ?_
        replace H := bnd H; obtain ⟨t4, J6, H⟩ := H
        refine eCallG rfl rfl isf16 rfl rfl rfl (f_answer_Owed_Len_nil.ok J6 HF9) ?_
        rintro _ w8 ⟨rfl, HF11⟩
        refine ⟨_, rfl, ?_⟩
        refine sG rfl rfl (bEql rfl rfl) rfl ?_
        refine sL (pkT rfl rfl) rfl ?_
        refine sL (mv rfl) rfl ?_
        by_cases c4 : t4 = 0
        · replace H := itT c4 H
          refine lSet (i := 33) rfl (dT c4) ?_
          refine sG rfl rfl (mv rfl) rfl ?_
          refine sG rfl rfl (mv rfl) rfl ?_
          replace H := bnd H; obtain ⟨t5, J7, H⟩ := H
          refine eCallG rfl rfl isf17 rfl rfl rfl (f_answer_Owed_Tick_nil_nil.ok (sub_c (sub_c hG)) J7 HF11) ?_
          rintro _ w9 ⟨N1, A1, c5, L1, rfl, HF12, ho1⟩
          have HF13 := HF12.perm (pm_a (perm_c (perm_c (List.Perm.refl _))).symm)
          have hs1 : G ⊆ N1 ++ G := sub_a sub_r
          refine ⟨_, rfl, ?_⟩
          refine sG rfl rfl (lnS rfl Try.underlying22) rfl ?_
          refine sG rfl rfl (bEql rfl rfl) rfl ?_
          refine sL (pkT rfl rfl) rfl ?_
          refine sL (mv rfl) rfl ?_
          by_cases c6 : (t5.length : Int) = 0
          · replace H := itT c6 H
            refine lSet (i := 40) rfl (dT c6) ?_
            replace H := bnd H; obtain ⟨t6, J8, H⟩ := H
            refine eCallG rfl rfl isf5 rfl rfl rfl (f_plenumlaw14_awake.ok (sub_a (sub_c (sub_c (sub_n hG)))) J8 HF13) ?_
            rintro _ w10 ⟨rfl, HF14⟩
            refine ⟨_, rfl, ?_⟩
            refine sL (pkT rfl rfl) rfl ?_
            refine sL (asg rfl) rfl ?_
            refine lEnd (K := fun _ _ => True) ?_
            refine kN (?_)
            refine hK6 _ _ ?_
            refine cRet ?_
            obtain rfl := Option.some.inj H
            refine ret1 rfl rfl ?_
            have HF15 := HF14.sublist (sl_da (sl_dc (sl_dc (List.Sublist.refl _))))
            have HF17 := HF15.sublist (sl_da (List.Sublist.refl _))
            exact ⟨rfl, HF17⟩
          · replace H := itF c6 H
            refine lSet (i := 40) rfl (dF c6) ?_
            refine sN rfl rfl rfl rfl ?_
            refine sL (pkF rfl rfl) rfl ?_
            refine sL (asg rfl) rfl ?_
            refine lEnd (K := fun _ _ => True) ?_
            refine kN (?_)
            refine hK6 _ _ ?_
            refine cRet ?_
            obtain rfl := Option.some.inj H
            refine ret1 rfl rfl ?_
            have HF18 := HF13.sublist (sl_da (sl_dc (sl_dc (List.Sublist.refl _))))
            have HF20 := HF18.sublist (sl_da (List.Sublist.refl _))
            exact ⟨rfl, HF20⟩
        · replace H := itF c4 H
          refine lSet (i := 33) rfl (dF c4) ?_
          refine sN rfl rfl rfl rfl ?_
          refine sN rfl rfl rfl rfl ?_
          refine sN rfl rfl rfl rfl ?_
          refine sN rfl rfl rfl rfl ?_
          refine sN rfl rfl rfl rfl ?_
          refine sL (pkF rfl rfl) rfl ?_
          refine sL (mv rfl) rfl ?_
          refine sN rfl rfl rfl rfl ?_
          refine sL (pkF rfl rfl) rfl ?_
          refine sL (asg rfl) rfl ?_
          refine lEnd (K := fun _ _ => True) ?_
          refine kN (?_)
          refine hK6 _ _ ?_
          refine cRet ?_
          obtain rfl := Option.some.inj H
          refine ret1 rfl rfl ?_
          have HF21 := HF11.sublist (sl_dc (sl_dc (List.Sublist.refl _)))
          exact ⟨rfl, HF21⟩
/-! ### plenum/plenumlaw5.Great (function 6) -/
abbrev f_plenumlaw5_Great.R := Bool
noncomputable def f_plenumlaw5_Great (a0 : T_api_Lsa) : Option f_plenumlaw5_Great.R := (if 70 < (a0.f_Links.length : Int) then some true else (if 70 < (a0.f_Routers.length : Int) then some true else some (decide (70 < (a0.f_Verts.length : Int)))))
set_option maxHeartbeats 1000000 in
theorem f_plenumlaw5_Great.ok {z w : World} {F G : Hp} (hG : G ⊆ F) {a0 : T_api_Lsa} {A_a0_8 : Option Addr} {c_a0_8 : Nat} {X_a0_8 : Hp} {A_a0_10 : Option Addr} {c_a0_10 : Nat} {X_a0_10 : Hp} {A_a0_11 : Option Addr} {c_a0_11 : Nat} {X_a0_11 : Hp} {r : f_plenumlaw5_Great.R} (H : f_plenumlaw5_Great a0 = some r) (HF : Fits z w F) (hX_a0_8 : X_a0_8 ⊆ F) (hr_a0_8 : RdS k_T_api_Link X_a0_8 A_a0_8 c_a0_8 a0.f_Links) (hX_a0_10 : X_a0_10 ⊆ F) (hr_a0_10 : RdS (kInt .i64) X_a0_10 A_a0_10 c_a0_10 a0.f_Routers) (hX_a0_11 : X_a0_11 ⊆ F) (hr_a0_11 : RdS k_T_api_Vert X_a0_11 A_a0_11 c_a0_11 a0.f_Verts) :
    Calls Try.prog 6 [.agg [.int .i64 a0.f_Head.f_Age, .int .i64 a0.f_Head.f_Kind, .int .i64 a0.f_Head.f_Id, .int .i64 a0.f_Head.f_Adv, .int .i64 a0.f_Head.f_Seq, .int .i64 a0.f_Head.f_Sum, .int .i64 a0.f_Head.f_Len, .int .i64 a0.f_Flags, .slice A_a0_8 a0.f_Links.length c_a0_8, .int .i64 a0.f_Bits, .slice A_a0_10 a0.f_Routers.length c_a0_10, .slice A_a0_11 a0.f_Verts.length c_a0_11].toArray].toArray w fun e w' => e = .returned (.bool r) ∧ Fits z w' F := by
  unfold f_plenumlaw5_Great at H
  refine enter0 Try.func6 rfl Try.ntmps6 rfl (E := [(0, .agg [.int .i64 a0.f_Head.f_Age, .int .i64 a0.f_Head.f_Kind, .int .i64 a0.f_Head.f_Id, .int .i64 a0.f_Head.f_Adv, .int .i64 a0.f_Head.f_Seq, .int .i64 a0.f_Head.f_Sum, .int .i64 a0.f_Head.f_Len, .int .i64 a0.f_Flags, .slice A_a0_8 a0.f_Links.length c_a0_8, .int .i64 a0.f_Bits, .slice A_a0_10 a0.f_Routers.length c_a0_10, .slice A_a0_11 a0.f_Verts.length c_a0_11].toArray)]) rfl ?_
  refine cSeq (fun K1 hK1 => ?_)
  refine cRgn [] trivial ?_
  refine eW (oBox HF rfl) rfl ?_
  rintro _ w1 ⟨g1, rfl, HF1⟩
  refine sL (asg rfl) rfl ?_
  refine lEnd (K := fun _ _ => True) ?_
  refine kN (?_)
  refine hK1 _ _ ?_
  refine cSeq (fun K2 hK2 => ?_)
  refine cRgn [(4, 7), (10, 13)] ⟨rfl, rfl, trivial⟩ ?_
  refine sL (fa32_2 rfl) rfl ?_
  refine sL (ld rfl Try.underlying28 rfl (HF1.box (mem_h) rfl)) rfl ?_
  refine sL (lnS rfl Try.underlying28) rfl ?_
  refine sL (bGtr rfl rfl) rfl ?_
  refine sL (mv rfl) rfl ?_
  by_cases c1 : 70 < (a0.f_Links.length : Int)
  · replace H := itT c1 H
    refine lSet (i := 7) rfl (dT c1) ?_
    refine sN rfl rfl rfl rfl ?_
    refine sN rfl rfl rfl rfl ?_
    refine sN rfl rfl rfl rfl ?_
    refine sN rfl rfl rfl rfl ?_
    refine sL (pkT rfl rfl) rfl ?_
    refine sL (mv rfl) rfl ?_
    refine sN rfl rfl rfl rfl ?_
    refine sN rfl rfl rfl rfl ?_
    refine sN rfl rfl rfl rfl ?_
    refine sN rfl rfl rfl rfl ?_
    refine sL (pkT rfl rfl) rfl ?_
    refine sL (asg rfl) rfl ?_
    refine lEnd (K := fun _ _ => True) ?_
    refine kN (?_)
    refine hK2 _ _ ?_
    refine cRet ?_
    obtain rfl := Option.some.inj H
    refine ret1 rfl rfl ?_
    have HF2 := HF1.sublist (sl_dc (List.Sublist.refl _))
    exact ⟨rfl, HF2⟩
  · replace H := itF c1 H
    refine lSet (i := 7) rfl (dF c1) ?_
    refine sG rfl rfl (fa32_4 rfl) rfl ?_
    refine sG rfl rfl (ld rfl Try.underlying29 rfl (HF1.box (mem_h) rfl)) rfl ?_
    refine sG rfl rfl (lnS rfl Try.underlying29) rfl ?_
    refine sG rfl rfl (bGtr rfl rfl) rfl ?_
    refine sL (pkF rfl rfl) rfl ?_
    refine sL (mv rfl) rfl ?_
    by_cases c2 : 70 < (a0.f_Routers.length : Int)
    · replace H := itT c2 H
      refine lSet (i := 13) rfl (dT c2) ?_
      refine sN rfl rfl rfl rfl ?_
      refine sN rfl rfl rfl rfl ?_
      refine sN rfl rfl rfl rfl ?_
      refine sN rfl rfl rfl rfl ?_
      refine sL (pkT rfl rfl) rfl ?_
      refine sL (asg rfl) rfl ?_
      refine lEnd (K := fun _ _ => True) ?_
      refine kN (?_)
      refine hK2 _ _ ?_
      refine cRet ?_
      obtain rfl := Option.some.inj H
      refine ret1 rfl rfl ?_
      have HF3 := HF1.sublist (sl_dc (List.Sublist.refl _))
      exact ⟨rfl, HF3⟩
    · replace H := itF c2 H
      refine lSet (i := 13) rfl (dF c2) ?_
      refine sG rfl rfl (fa32_5 rfl) rfl ?_
      refine sG rfl rfl (ld rfl Try.underlying30 rfl (HF1.box (mem_h) rfl)) rfl ?_
      refine sG rfl rfl (lnS rfl Try.underlying30) rfl ?_
      refine sG rfl rfl (bGtr rfl rfl) rfl ?_
      refine sL (pkF rfl rfl) rfl ?_
      refine sL (asg rfl) rfl ?_
      refine lEnd (K := fun _ _ => True) ?_
      refine kN (?_)
      refine hK2 _ _ ?_
      refine cRet ?_
      obtain rfl := Option.some.inj H
      refine ret1 rfl rfl ?_
      have HF4 := HF1.sublist (sl_dc (List.Sublist.refl _))
      exact ⟨rfl, HF4⟩
end Go.Proofs.Ytjmkalkckpffiaa
