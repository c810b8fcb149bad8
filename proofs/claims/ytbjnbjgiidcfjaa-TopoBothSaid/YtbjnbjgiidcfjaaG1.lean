/- For each Go function that the laws reach: a function on plain values with the same answers, and the proof that the call comes to them (none: nothing is told). Conditions: none beside each theorem's own. Written by gen.py out of the print of the loaded program. -/
import Derived.Test.YtbjnbjgiidcfjaaProg
import Derived.Test.YtbjnbjgiidcfjaaSp20
import Derived.KernelRfl
set_option linter.unusedVariables false
set_option linter.unusedSimpArgs false
namespace Go.Proofs.Ytbjnbjgiidcfjaa
open Go Go.Proofs.Ytbjnbjgiidcfjaa.Sp

structure T_api_Head where
  f_Age : Int
  f_Kind : Int
  f_Id : Int
  f_Adv : Int
  f_Seq : Int
  f_Sum : Int
  f_Len : Int
  deriving Inhabited, DecidableEq
def enc_T_api_Head (x : T_api_Head) : List Value := [.int .i64 x.f_Age, .int .i64 x.f_Kind, .int .i64 x.f_Id, .int .i64 x.f_Adv, .int .i64 x.f_Seq, .int .i64 x.f_Sum, .int .i64 x.f_Len]
theorem len_T_api_Head (x : T_api_Head) : (enc_T_api_Head x).length = 7 := rfl
theorem one_T_api_Head (x : T_api_Head) : ∀ v ∈ enc_T_api_Head x, v.oneCell' = true := by intro v hv; simp only [enc_T_api_Head, List.mem_cons, List.not_mem_nil, or_false] at hv; rcases hv with rfl | rfl | rfl | rfl | rfl | rfl | rfl <;> rfl
def k_T_api_Head : Kd T_api_Head := kFlat enc_T_api_Head 7 len_T_api_Head one_T_api_Head
structure T_api_Link where
  f_Kind : Int
  f_Id : Int
  f_Data : Int
  f_Cost : Int
  deriving Inhabited, DecidableEq
def enc_T_api_Link (x : T_api_Link) : List Value := [.int .i64 x.f_Kind, .int .i64 x.f_Id, .int .i64 x.f_Data, .int .i64 x.f_Cost]
theorem len_T_api_Link (x : T_api_Link) : (enc_T_api_Link x).length = 4 := rfl
theorem one_T_api_Link (x : T_api_Link) : ∀ v ∈ enc_T_api_Link x, v.oneCell' = true := by intro v hv; simp only [enc_T_api_Link, List.mem_cons, List.not_mem_nil, or_false] at hv; rcases hv with rfl | rfl | rfl | rfl <;> rfl
def k_T_api_Link : Kd T_api_Link := kFlat enc_T_api_Link 4 len_T_api_Link one_T_api_Link
structure T_api_Vert where
  f_Kind : Int
  f_Id : Int
  deriving Inhabited, DecidableEq
def enc_T_api_Vert (x : T_api_Vert) : List Value := [.int .i64 x.f_Kind, .int .i64 x.f_Id]
theorem len_T_api_Vert (x : T_api_Vert) : (enc_T_api_Vert x).length = 2 := rfl
theorem one_T_api_Vert (x : T_api_Vert) : ∀ v ∈ enc_T_api_Vert x, v.oneCell' = true := by intro v hv; simp only [enc_T_api_Vert, List.mem_cons, List.not_mem_nil, or_false] at hv; rcases hv with rfl | rfl <;> rfl
def k_T_api_Vert : Kd T_api_Vert := kFlat enc_T_api_Vert 2 len_T_api_Vert one_T_api_Vert
structure T_api_Lsa where
  f_Head : T_api_Head
  f_Flags : Int
  f_Links : List T_api_Link
  f_Bits : Int
  f_Routers : List Int
  f_Verts : List T_api_Vert
  deriving Inhabited, DecidableEq
def k_T_api_Lsa : Kd T_api_Lsa := kIso (kPair k_T_api_Head (kPair (kInt .i64) (kPair (kSl k_T_api_Link) (kPair (kInt .i64) (kPair (kSl (kInt .i64)) (kSl k_T_api_Vert)))))) (fun x => (x.f_Head, x.f_Flags, x.f_Links, x.f_Bits, x.f_Routers, x.f_Verts))
theorem rd_T_api_Lsa {G : Hp} {cs : List Value} {x : T_api_Lsa} (h : k_T_api_Lsa.rd G cs x) : ∃ (A8 : Option Addr) (c8 : Nat) (A10 : Option Addr) (c10 : Nat) (A11 : Option Addr) (c11 : Nat), cs = [.int .i64 x.f_Head.f_Age, .int .i64 x.f_Head.f_Kind, .int .i64 x.f_Head.f_Id, .int .i64 x.f_Head.f_Adv, .int .i64 x.f_Head.f_Seq, .int .i64 x.f_Head.f_Sum, .int .i64 x.f_Head.f_Len, .int .i64 x.f_Flags, .slice A8 x.f_Links.length c8, .int .i64 x.f_Bits, .slice A10 x.f_Routers.length c10, .slice A11 x.f_Verts.length c11] ∧ RdS k_T_api_Link G A8 c8 x.f_Links ∧ RdS (kInt .i64) G A10 c10 x.f_Routers ∧ RdS k_T_api_Vert G A11 c11 x.f_Verts := by
  obtain ⟨_, _, rfl, rfl, ⟨_, _, rfl, rfl, ⟨_, _, rfl, ⟨A8, c8, rfl, h8⟩, ⟨_, _, rfl, rfl, ⟨_, _, rfl, ⟨A10, c10, rfl, h10⟩, ⟨A11, c11, rfl, h11⟩⟩⟩⟩⟩⟩ := h
  exact ⟨A8, c8, A10, c10, A11, c11, rfl, h8, h10, h11⟩
theorem mk_T_api_Lsa {G : Hp} {x : T_api_Lsa} {A8 : Option Addr} {c8 : Nat} {A10 : Option Addr} {c10 : Nat} {A11 : Option Addr} {c11 : Nat} (h8 : RdS k_T_api_Link G A8 c8 x.f_Links) (h10 : RdS (kInt .i64) G A10 c10 x.f_Routers) (h11 : RdS k_T_api_Vert G A11 c11 x.f_Verts) : k_T_api_Lsa.rd G [.int .i64 x.f_Head.f_Age, .int .i64 x.f_Head.f_Kind, .int .i64 x.f_Head.f_Id, .int .i64 x.f_Head.f_Adv, .int .i64 x.f_Head.f_Seq, .int .i64 x.f_Head.f_Sum, .int .i64 x.f_Head.f_Len, .int .i64 x.f_Flags, .slice A8 x.f_Links.length c8, .int .i64 x.f_Bits, .slice A10 x.f_Routers.length c10, .slice A11 x.f_Verts.length c11] x :=
  ⟨_, _, rfl, rfl, ⟨_, _, rfl, rfl, ⟨_, _, rfl, ⟨_, _, rfl, h8⟩, ⟨_, _, rfl, rfl, ⟨_, _, rfl, ⟨_, _, rfl, h10⟩, ⟨_, _, rfl, h11⟩⟩⟩⟩⟩⟩
structure T_topo_area where
  f_routers : List T_api_Lsa
  f_networks : List T_api_Lsa
  f_router : List (Int × T_api_Lsa)
  f_network : List (Int × T_api_Lsa)
  deriving Inhabited, DecidableEq
structure T_api_Edge where
  f_From : T_api_Vert
  f_To : T_api_Vert
  f_Cost : Int
  f_Data : Int
  deriving Inhabited, DecidableEq
def enc_T_api_Edge (x : T_api_Edge) : List Value := [.int .i64 x.f_From.f_Kind, .int .i64 x.f_From.f_Id, .int .i64 x.f_To.f_Kind, .int .i64 x.f_To.f_Id, .int .i64 x.f_Cost, .int .i64 x.f_Data]
theorem len_T_api_Edge (x : T_api_Edge) : (enc_T_api_Edge x).length = 6 := rfl
theorem one_T_api_Edge (x : T_api_Edge) : ∀ v ∈ enc_T_api_Edge x, v.oneCell' = true := by intro v hv; simp only [enc_T_api_Edge, List.mem_cons, List.not_mem_nil, or_false] at hv; rcases hv with rfl | rfl | rfl | rfl | rfl | rfl <;> rfl
def k_T_api_Edge : Kd T_api_Edge := kFlat enc_T_api_Edge 6 len_T_api_Edge one_T_api_Edge
structure T_api_Stub where
  f_Router : Int
  f_Prefix : Int
  f_Bits : Int
  f_Cost : Int
  deriving Inhabited, DecidableEq
def enc_T_api_Stub (x : T_api_Stub) : List Value := [.int .i64 x.f_Router, .int .i64 x.f_Prefix, .int .i64 x.f_Bits, .int .i64 x.f_Cost]
theorem len_T_api_Stub (x : T_api_Stub) : (enc_T_api_Stub x).length = 4 := rfl
theorem one_T_api_Stub (x : T_api_Stub) : ∀ v ∈ enc_T_api_Stub x, v.oneCell' = true := by intro v hv; simp only [enc_T_api_Stub, List.mem_cons, List.not_mem_nil, or_false] at hv; rcases hv with rfl | rfl | rfl | rfl <;> rfl
def k_T_api_Stub : Kd T_api_Stub := kFlat enc_T_api_Stub 4 len_T_api_Stub one_T_api_Stub
structure T_api_Span where
  f_Vert : T_api_Vert
  f_Prefix : Int
  f_Bits : Int
  deriving Inhabited, DecidableEq
def enc_T_api_Span (x : T_api_Span) : List Value := [.int .i64 x.f_Vert.f_Kind, .int .i64 x.f_Vert.f_Id, .int .i64 x.f_Prefix, .int .i64 x.f_Bits]
theorem len_T_api_Span (x : T_api_Span) : (enc_T_api_Span x).length = 4 := rfl
theorem one_T_api_Span (x : T_api_Span) : ∀ v ∈ enc_T_api_Span x, v.oneCell' = true := by intro v hv; simp only [enc_T_api_Span, List.mem_cons, List.not_mem_nil, or_false] at hv; rcases hv with rfl | rfl | rfl | rfl <;> rfl
def k_T_api_Span : Kd T_api_Span := kFlat enc_T_api_Span 4 len_T_api_Span one_T_api_Span
structure T_api_Map where
  f_Verts : List T_api_Vert
  f_Edges : List T_api_Edge
  f_Stubs : List T_api_Stub
  f_Spans : List T_api_Span
  f_Wilds : List Int
  deriving Inhabited, DecidableEq
def k_T_api_Map : Kd T_api_Map := kIso (kPair (kSl k_T_api_Vert) (kPair (kSl k_T_api_Edge) (kPair (kSl k_T_api_Stub) (kPair (kSl k_T_api_Span) (kSl (kInt .i64)))))) (fun x => (x.f_Verts, x.f_Edges, x.f_Stubs, x.f_Spans, x.f_Wilds))
theorem rd_T_api_Map {G : Hp} {cs : List Value} {x : T_api_Map} (h : k_T_api_Map.rd G cs x) : ∃ (A0 : Option Addr) (c0 : Nat) (A1 : Option Addr) (c1 : Nat) (A2 : Option Addr) (c2 : Nat) (A3 : Option Addr) (c3 : Nat) (A4 : Option Addr) (c4 : Nat), cs = [.slice A0 x.f_Verts.length c0, .slice A1 x.f_Edges.length c1, .slice A2 x.f_Stubs.length c2, .slice A3 x.f_Spans.length c3, .slice A4 x.f_Wilds.length c4] ∧ RdS k_T_api_Vert G A0 c0 x.f_Verts ∧ RdS k_T_api_Edge G A1 c1 x.f_Edges ∧ RdS k_T_api_Stub G A2 c2 x.f_Stubs ∧ RdS k_T_api_Span G A3 c3 x.f_Spans ∧ RdS (kInt .i64) G A4 c4 x.f_Wilds := by
  obtain ⟨_, _, rfl, ⟨A0, c0, rfl, h0⟩, ⟨_, _, rfl, ⟨A1, c1, rfl, h1⟩, ⟨_, _, rfl, ⟨A2, c2, rfl, h2⟩, ⟨_, _, rfl, ⟨A3, c3, rfl, h3⟩, ⟨A4, c4, rfl, h4⟩⟩⟩⟩⟩ := h
  exact ⟨A0, c0, A1, c1, A2, c2, A3, c3, A4, c4, rfl, h0, h1, h2, h3, h4⟩
theorem mk_T_api_Map {G : Hp} {x : T_api_Map} {A0 : Option Addr} {c0 : Nat} {A1 : Option Addr} {c1 : Nat} {A2 : Option Addr} {c2 : Nat} {A3 : Option Addr} {c3 : Nat} {A4 : Option Addr} {c4 : Nat} (h0 : RdS k_T_api_Vert G A0 c0 x.f_Verts) (h1 : RdS k_T_api_Edge G A1 c1 x.f_Edges) (h2 : RdS k_T_api_Stub G A2 c2 x.f_Stubs) (h3 : RdS k_T_api_Span G A3 c3 x.f_Spans) (h4 : RdS (kInt .i64) G A4 c4 x.f_Wilds) : k_T_api_Map.rd G [.slice A0 x.f_Verts.length c0, .slice A1 x.f_Edges.length c1, .slice A2 x.f_Stubs.length c2, .slice A3 x.f_Spans.length c3, .slice A4 x.f_Wilds.length c4] x :=
  ⟨_, _, rfl, ⟨_, _, rfl, h0⟩, ⟨_, _, rfl, ⟨_, _, rfl, h1⟩, ⟨_, _, rfl, ⟨_, _, rfl, h2⟩, ⟨_, _, rfl, ⟨_, _, rfl, h3⟩, ⟨_, _, rfl, h4⟩⟩⟩⟩⟩
def fs32 : Array Field := #[Field.mk "Verts" 26 0 false "" "" 0, Field.mk "Edges" 27 1 false "" "" 24, Field.mk "Stubs" 28 2 false "" "" 48, Field.mk "Spans" 29 3 false "" "" 72, Field.mk "Wilds" 30 4 false "" "" 96]
def ds32 : TypeDesc := .struct fs32
def fs35 : Array Field := #[Field.mk "Kind" 3 0 false "" "" 0, Field.mk "Id" 3 1 false "" "" 8]
def ds35 : TypeDesc := .struct fs35
def fs37 : Array Field := #[Field.mk "From" 35 0 false "" "" 0, Field.mk "To" 35 2 false "" "" 16, Field.mk "Cost" 3 4 false "" "" 32, Field.mk "Data" 3 5 false "" "" 40]
def ds37 : TypeDesc := .struct fs37
def fs41 : Array Field := #[Field.mk "Age" 3 0 false "" "" 0, Field.mk "Kind" 3 1 false "" "" 8, Field.mk "Id" 3 2 false "" "" 16, Field.mk "Adv" 3 3 false "" "" 24, Field.mk "Seq" 3 4 false "" "" 32, Field.mk "Sum" 3 5 false "" "" 40, Field.mk "Len" 3 6 false "" "" 48]
def ds41 : TypeDesc := .struct fs41
def fs44 : Array Field := #[Field.mk "Head" 41 0 false "" "" 0, Field.mk "Flags" 3 7 false "" "" 56, Field.mk "Links" 42 8 false "" "" 64, Field.mk "Bits" 3 9 false "" "" 88, Field.mk "Routers" 30 10 false "" "" 96, Field.mk "Verts" 26 11 false "" "" 120]
def ds44 : TypeDesc := .struct fs44
def fs56 : Array Field := #[Field.mk "Kind" 3 0 false "" "" 0, Field.mk "Id" 3 1 false "" "" 8, Field.mk "Data" 3 2 false "" "" 16, Field.mk "Cost" 3 3 false "" "" 24]
def ds56 : TypeDesc := .struct fs56
def fs61 : Array Field := #[Field.mk "routers" 24 0 false "" "plenum/topo" 0, Field.mk "networks" 24 1 false "" "plenum/topo" 24, Field.mk "router" 59 2 false "" "plenum/topo" 48, Field.mk "network" 59 3 false "" "plenum/topo" 56]
def ds61 : TypeDesc := .struct fs61
def fs72 : Array Field := #[Field.mk "Router" 3 0 false "" "" 0, Field.mk "Prefix" 3 1 false "" "" 8, Field.mk "Bits" 3 2 false "" "" 16, Field.mk "Cost" 3 3 false "" "" 24]
def ds72 : TypeDesc := .struct fs72
def fs74 : Array Field := #[Field.mk "Vert" 35 0 false "" "" 0, Field.mk "Prefix" 3 2 false "" "" 16, Field.mk "Bits" 3 3 false "" "" 24]
def ds74 : TypeDesc := .struct fs74
theorem eg35 : Try.prog.eqGuardType Try.prog.depth 35 = false := by kernel_rfl
theorem eq_T_api_Vert (x y : T_api_Vert) : ((x.f_Kind == y.f_Kind) && ((x.f_Id == y.f_Id) && (true))) = decide (x = y) := by
  obtain ⟨v1, v2⟩ := x
  obtain ⟨v3, v4⟩ := y
  rw [Bool.eq_iff_iff]
  simp [bytes_eq, and_assoc]
theorem isf10 : IsF Try.prog 10 := IsF.mk Try.func10 rfl rfl
theorem isf19 : IsF Try.prog 19 := IsF.mk Try.func19 rfl rfl
theorem isf20 : IsF Try.prog 20 := IsF.mk Try.func20 rfl rfl
theorem isf21 : IsF Try.prog 21 := IsF.mk Try.func21 rfl rfl
theorem isf22 : IsF Try.prog 22 := IsF.mk Try.func22 rfl rfl
theorem isf23 : IsF Try.prog 23 := IsF.mk Try.func23 rfl rfl
theorem isf24 : IsF Try.prog 24 := IsF.mk Try.func24 rfl rfl
theorem isf25 : IsF Try.prog 25 := IsF.mk Try.func25 rfl rfl
theorem isf26 : IsF Try.prog 26 := IsF.mk Try.func26 rfl rfl
theorem isf27 : IsF Try.prog 27 := IsF.mk Try.func27 rfl rfl
theorem isf40 : IsF Try.prog 40 := IsF.mk Try.func40 rfl rfl
theorem isf41 : IsF Try.prog 41 := IsF.mk Try.func41 rfl rfl
theorem isf45 : IsF Try.prog 45 := IsF.mk Try.func45 rfl rfl
theorem isf46 : IsF Try.prog 46 := IsF.mk Try.func46 rfl rfl
theorem isf47 : IsF Try.prog 47 := IsF.mk Try.func47 rfl rfl
theorem isf48 : IsF Try.prog 48 := IsF.mk Try.func48 rfl rfl
theorem isf49 : IsF Try.prog 49 := IsF.mk Try.func49 rfl rfl
theorem isf50 : IsF Try.prog 50 := IsF.mk Try.func50 rfl rfl
theorem isf51 : IsF Try.prog 51 := IsF.mk Try.func51 rfl rfl
theorem isf52 : IsF Try.prog 52 := IsF.mk Try.func52 rfl rfl
theorem isf53 : IsF Try.prog 53 := IsF.mk Try.func53 rfl rfl
theorem isf60 : IsF Try.prog 60 := IsF.mk Try.func60 rfl rfl
theorem isf61 : IsF Try.prog 61 := IsF.mk Try.func61 rfl rfl
theorem isf73 : IsF Try.prog 73 := IsF.mk Try.func73 rfl rfl
theorem isf74 : IsF Try.prog 74 := IsF.mk Try.func74 rfl rfl
theorem isf8 : IsF Try.prog 8 := IsF.mk Try.func8 rfl rfl
theorem isf80 : IsF Try.prog 80 := IsF.mk Try.func80 rfl rfl
theorem isf82 : IsF Try.prog 82 := IsF.mk Try.func82 rfl rfl
theorem isf9 : IsF Try.prog 9 := IsF.mk Try.func9 rfl rfl
theorem fa32_0 {E : List (Nat × Value)} {w : World} {x : Operand} {g o : Nat} (hx : lv E x = some (.pointer (some ⟨g, o, none⟩))) : Run Try.prog E w (.fieldAddr 32 x 0) (.pointer (some ⟨g, o + 0, none⟩)) := fa (sz := 0) hx Try.underlying32 rfl rfl (by kernel_rfl)
theorem fa32_1 {E : List (Nat × Value)} {w : World} {x : Operand} {g o : Nat} (hx : lv E x = some (.pointer (some ⟨g, o, none⟩))) : Run Try.prog E w (.fieldAddr 32 x 1) (.pointer (some ⟨g, o + 1, none⟩)) := fa (sz := 0) hx Try.underlying32 rfl rfl (by kernel_rfl)
theorem fa32_2 {E : List (Nat × Value)} {w : World} {x : Operand} {g o : Nat} (hx : lv E x = some (.pointer (some ⟨g, o, none⟩))) : Run Try.prog E w (.fieldAddr 32 x 2) (.pointer (some ⟨g, o + 2, none⟩)) := fa (sz := 0) hx Try.underlying32 rfl rfl (by kernel_rfl)
theorem fa32_3 {E : List (Nat × Value)} {w : World} {x : Operand} {g o : Nat} (hx : lv E x = some (.pointer (some ⟨g, o, none⟩))) : Run Try.prog E w (.fieldAddr 32 x 3) (.pointer (some ⟨g, o + 3, none⟩)) := fa (sz := 0) hx Try.underlying32 rfl rfl (by kernel_rfl)
theorem fa32_4 {E : List (Nat × Value)} {w : World} {x : Operand} {g o : Nat} (hx : lv E x = some (.pointer (some ⟨g, o, none⟩))) : Run Try.prog E w (.fieldAddr 32 x 4) (.pointer (some ⟨g, o + 4, none⟩)) := fa (sz := 0) hx Try.underlying32 rfl rfl (by kernel_rfl)
theorem fa35_0 {E : List (Nat × Value)} {w : World} {x : Operand} {g o : Nat} (hx : lv E x = some (.pointer (some ⟨g, o, none⟩))) : Run Try.prog E w (.fieldAddr 35 x 0) (.pointer (some ⟨g, o + 0, none⟩)) := fa (sz := 0) hx Try.underlying35 rfl rfl (by kernel_rfl)
theorem fa37_0 {E : List (Nat × Value)} {w : World} {x : Operand} {g o : Nat} (hx : lv E x = some (.pointer (some ⟨g, o, none⟩))) : Run Try.prog E w (.fieldAddr 37 x 0) (.pointer (some ⟨g, o + 0, none⟩)) := fa (sz := 1) hx Try.underlying37 rfl rfl (by kernel_rfl)
theorem fa37_1 {E : List (Nat × Value)} {w : World} {x : Operand} {g o : Nat} (hx : lv E x = some (.pointer (some ⟨g, o, none⟩))) : Run Try.prog E w (.fieldAddr 37 x 1) (.pointer (some ⟨g, o + 2, none⟩)) := fa (sz := 1) hx Try.underlying37 rfl rfl (by kernel_rfl)
theorem fa37_2 {E : List (Nat × Value)} {w : World} {x : Operand} {g o : Nat} (hx : lv E x = some (.pointer (some ⟨g, o, none⟩))) : Run Try.prog E w (.fieldAddr 37 x 2) (.pointer (some ⟨g, o + 4, none⟩)) := fa (sz := 0) hx Try.underlying37 rfl rfl (by kernel_rfl)
theorem fa41_0 {E : List (Nat × Value)} {w : World} {x : Operand} {g o : Nat} (hx : lv E x = some (.pointer (some ⟨g, o, none⟩))) : Run Try.prog E w (.fieldAddr 41 x 0) (.pointer (some ⟨g, o + 0, none⟩)) := fa (sz := 0) hx Try.underlying41 rfl rfl (by kernel_rfl)
theorem fa41_1 {E : List (Nat × Value)} {w : World} {x : Operand} {g o : Nat} (hx : lv E x = some (.pointer (some ⟨g, o, none⟩))) : Run Try.prog E w (.fieldAddr 41 x 1) (.pointer (some ⟨g, o + 1, none⟩)) := fa (sz := 0) hx Try.underlying41 rfl rfl (by kernel_rfl)
theorem fa41_2 {E : List (Nat × Value)} {w : World} {x : Operand} {g o : Nat} (hx : lv E x = some (.pointer (some ⟨g, o, none⟩))) : Run Try.prog E w (.fieldAddr 41 x 2) (.pointer (some ⟨g, o + 2, none⟩)) := fa (sz := 0) hx Try.underlying41 rfl rfl (by kernel_rfl)
theorem fa41_3 {E : List (Nat × Value)} {w : World} {x : Operand} {g o : Nat} (hx : lv E x = some (.pointer (some ⟨g, o, none⟩))) : Run Try.prog E w (.fieldAddr 41 x 3) (.pointer (some ⟨g, o + 3, none⟩)) := fa (sz := 0) hx Try.underlying41 rfl rfl (by kernel_rfl)
theorem fa44_0 {E : List (Nat × Value)} {w : World} {x : Operand} {g o : Nat} (hx : lv E x = some (.pointer (some ⟨g, o, none⟩))) : Run Try.prog E w (.fieldAddr 44 x 0) (.pointer (some ⟨g, o + 0, none⟩)) := fa (sz := 6) hx Try.underlying44 rfl rfl (by kernel_rfl)
theorem fa44_1 {E : List (Nat × Value)} {w : World} {x : Operand} {g o : Nat} (hx : lv E x = some (.pointer (some ⟨g, o, none⟩))) : Run Try.prog E w (.fieldAddr 44 x 1) (.pointer (some ⟨g, o + 7, none⟩)) := fa (sz := 0) hx Try.underlying44 rfl rfl (by kernel_rfl)
theorem fa44_2 {E : List (Nat × Value)} {w : World} {x : Operand} {g o : Nat} (hx : lv E x = some (.pointer (some ⟨g, o, none⟩))) : Run Try.prog E w (.fieldAddr 44 x 2) (.pointer (some ⟨g, o + 8, none⟩)) := fa (sz := 0) hx Try.underlying44 rfl rfl (by kernel_rfl)
theorem fa44_3 {E : List (Nat × Value)} {w : World} {x : Operand} {g o : Nat} (hx : lv E x = some (.pointer (some ⟨g, o, none⟩))) : Run Try.prog E w (.fieldAddr 44 x 3) (.pointer (some ⟨g, o + 9, none⟩)) := fa (sz := 0) hx Try.underlying44 rfl rfl (by kernel_rfl)
theorem fa44_4 {E : List (Nat × Value)} {w : World} {x : Operand} {g o : Nat} (hx : lv E x = some (.pointer (some ⟨g, o, none⟩))) : Run Try.prog E w (.fieldAddr 44 x 4) (.pointer (some ⟨g, o + 10, none⟩)) := fa (sz := 0) hx Try.underlying44 rfl rfl (by kernel_rfl)
theorem fa56_0 {E : List (Nat × Value)} {w : World} {x : Operand} {g o : Nat} (hx : lv E x = some (.pointer (some ⟨g, o, none⟩))) : Run Try.prog E w (.fieldAddr 56 x 0) (.pointer (some ⟨g, o + 0, none⟩)) := fa (sz := 0) hx Try.underlying56 rfl rfl (by kernel_rfl)
theorem fa56_1 {E : List (Nat × Value)} {w : World} {x : Operand} {g o : Nat} (hx : lv E x = some (.pointer (some ⟨g, o, none⟩))) : Run Try.prog E w (.fieldAddr 56 x 1) (.pointer (some ⟨g, o + 1, none⟩)) := fa (sz := 0) hx Try.underlying56 rfl rfl (by kernel_rfl)
theorem fa56_2 {E : List (Nat × Value)} {w : World} {x : Operand} {g o : Nat} (hx : lv E x = some (.pointer (some ⟨g, o, none⟩))) : Run Try.prog E w (.fieldAddr 56 x 2) (.pointer (some ⟨g, o + 2, none⟩)) := fa (sz := 0) hx Try.underlying56 rfl rfl (by kernel_rfl)
theorem fa56_3 {E : List (Nat × Value)} {w : World} {x : Operand} {g o : Nat} (hx : lv E x = some (.pointer (some ⟨g, o, none⟩))) : Run Try.prog E w (.fieldAddr 56 x 3) (.pointer (some ⟨g, o + 3, none⟩)) := fa (sz := 0) hx Try.underlying56 rfl rfl (by kernel_rfl)
theorem fa61_0 {E : List (Nat × Value)} {w : World} {x : Operand} {g o : Nat} (hx : lv E x = some (.pointer (some ⟨g, o, none⟩))) : Run Try.prog E w (.fieldAddr 61 x 0) (.pointer (some ⟨g, o + 0, none⟩)) := fa (sz := 0) hx Try.underlying61 rfl rfl (by kernel_rfl)
theorem fa61_1 {E : List (Nat × Value)} {w : World} {x : Operand} {g o : Nat} (hx : lv E x = some (.pointer (some ⟨g, o, none⟩))) : Run Try.prog E w (.fieldAddr 61 x 1) (.pointer (some ⟨g, o + 1, none⟩)) := fa (sz := 0) hx Try.underlying61 rfl rfl (by kernel_rfl)
theorem fa61_2 {E : List (Nat × Value)} {w : World} {x : Operand} {g o : Nat} (hx : lv E x = some (.pointer (some ⟨g, o, none⟩))) : Run Try.prog E w (.fieldAddr 61 x 2) (.pointer (some ⟨g, o + 2, none⟩)) := fa (sz := 0) hx Try.underlying61 rfl rfl (by kernel_rfl)
theorem fa61_3 {E : List (Nat × Value)} {w : World} {x : Operand} {g o : Nat} (hx : lv E x = some (.pointer (some ⟨g, o, none⟩))) : Run Try.prog E w (.fieldAddr 61 x 3) (.pointer (some ⟨g, o + 3, none⟩)) := fa (sz := 0) hx Try.underlying61 rfl rfl (by kernel_rfl)
theorem mo_ : Try.prog.follows .mixedOrders = true := by kernel_rfl
theorem pl35 : PL Try.prog 35 fs35 [(0, 1), (1, 1)] := ⟨Try.underlying35, by kernel_rfl⟩
theorem pl37 : PL Try.prog 37 fs37 [(0, 2), (2, 2), (4, 1), (5, 1)] := ⟨Try.underlying37, by kernel_rfl⟩
theorem pl41 : PL Try.prog 41 fs41 [(0, 1), (1, 1), (2, 1), (3, 1), (4, 1), (5, 1), (6, 1)] := ⟨Try.underlying41, by kernel_rfl⟩
theorem pl44 : PL Try.prog 44 fs44 [(0, 7), (7, 1), (8, 1), (9, 1), (10, 1), (11, 1)] := ⟨Try.underlying44, by kernel_rfl⟩
theorem pl56 : PL Try.prog 56 fs56 [(0, 1), (1, 1), (2, 1), (3, 1)] := ⟨Try.underlying56, by kernel_rfl⟩
theorem pl61 : PL Try.prog 61 fs61 [(0, 1), (1, 1), (2, 1), (3, 1)] := ⟨Try.underlying61, by kernel_rfl⟩
theorem pl72 : PL Try.prog 72 fs72 [(0, 1), (1, 1), (2, 1), (3, 1)] := ⟨Try.underlying72, by kernel_rfl⟩
theorem pl74 : PL Try.prog 74 fs74 [(0, 2), (2, 1), (3, 1)] := ⟨Try.underlying74, by kernel_rfl⟩
theorem slf44_8 : SlF k_T_api_Lsa k_T_api_Link (fun x => x.f_Links) (fun x ys => (⟨x.f_Head, x.f_Flags, ys, x.f_Bits, x.f_Routers, x.f_Verts⟩ : T_api_Lsa)) 8 := by
  rintro L cs x ⟨L0, R0, c0, d0, rfl, rfl, ⟨rfl, rfl⟩, ⟨L1, R1, c1, d1, rfl, rfl, ⟨rfl, rfl⟩, ⟨L2, R2, c2, d2, rfl, rfl, ⟨A, c, rfl, h⟩, h3⟩⟩⟩
  exact ⟨[], L2, R2, A, c, rfl, rfl, h, fun Lk' A' c' ys hk => ⟨[], _, enc_T_api_Head x.f_Head, _, rfl, rfl, ⟨rfl, rfl⟩, ⟨[], _, [.int .i64 x.f_Flags], _, rfl, rfl, ⟨rfl, rfl⟩, ⟨Lk', R2, [.slice A' ys.length c'], d2, rfl, rfl, ⟨A', c', rfl, hk⟩, h3⟩⟩⟩⟩
theorem sh35 : Try.prog.stoodInHeld 35 = false := by kernel_rfl
theorem ti24 : TI Try.prog 24 (.slice 44) (.slice none 0 0) 1 24 := TI.mk' Try.underlying24 (by kernel_rfl)
theorem ti26 : TI Try.prog 26 (.slice 35) (.slice none 0 0) 1 24 := TI.mk' Try.underlying26 (by kernel_rfl)
theorem ti27 : TI Try.prog 27 (.slice 37) (.slice none 0 0) 1 24 := TI.mk' Try.underlying27 (by kernel_rfl)
theorem ti28 : TI Try.prog 28 (.slice 72) (.slice none 0 0) 1 24 := TI.mk' Try.underlying28 (by kernel_rfl)
theorem ti29 : TI Try.prog 29 (.slice 74) (.slice none 0 0) 1 24 := TI.mk' Try.underlying29 (by kernel_rfl)
theorem ti3 : TI Try.prog 3 (.int .i64) (.int .i64 0) 1 8 := TI.mk' Try.underlying3 (by kernel_rfl)
theorem ti30 : TI Try.prog 30 (.slice 3) (.slice none 0 0) 1 24 := TI.mk' Try.underlying30 (by kernel_rfl)
theorem ti32 : TI Try.prog 32 ds32 (.agg [(.slice none 0 0), (.slice none 0 0), (.slice none 0 0), (.slice none 0 0), (.slice none 0 0)].toArray) 5 120 := TI.mk' Try.underlying32 (by kernel_rfl)
theorem ti35 : TI Try.prog 35 ds35 (.agg [(.int .i64 0), (.int .i64 0)].toArray) 2 16 := TI.mk' Try.underlying35 (by kernel_rfl)
theorem ti37 : TI Try.prog 37 ds37 (.agg [(.int .i64 0), (.int .i64 0), (.int .i64 0), (.int .i64 0), (.int .i64 0), (.int .i64 0)].toArray) 6 48 := TI.mk' Try.underlying37 (by kernel_rfl)
theorem ti4 : TI Try.prog 4 .bool (.bool false) 1 1 := TI.mk' Try.underlying4 (by kernel_rfl)
theorem ti41 : TI Try.prog 41 ds41 (.agg [(.int .i64 0), (.int .i64 0), (.int .i64 0), (.int .i64 0), (.int .i64 0), (.int .i64 0), (.int .i64 0)].toArray) 7 56 := TI.mk' Try.underlying41 (by kernel_rfl)
theorem ti42 : TI Try.prog 42 (.slice 56) (.slice none 0 0) 1 24 := TI.mk' Try.underlying42 (by kernel_rfl)
theorem ti44 : TI Try.prog 44 ds44 (.agg [(.int .i64 0), (.int .i64 0), (.int .i64 0), (.int .i64 0), (.int .i64 0), (.int .i64 0), (.int .i64 0), (.int .i64 0), (.slice none 0 0), (.int .i64 0), (.slice none 0 0), (.slice none 0 0)].toArray) 12 144 := TI.mk' Try.underlying44 (by kernel_rfl)
theorem ti5 : TI Try.prog 5 (.int .u8) (.int .u8 0) 1 1 := TI.mk' Try.underlying5 (by kernel_rfl)
theorem ti56 : TI Try.prog 56 ds56 (.agg [(.int .i64 0), (.int .i64 0), (.int .i64 0), (.int .i64 0)].toArray) 4 32 := TI.mk' Try.underlying56 (by kernel_rfl)
theorem ti59 : TI Try.prog 59 (.map 3 44) (.map none) 1 8 := TI.mk' Try.underlying59 (by kernel_rfl)
theorem ti61 : TI Try.prog 61 ds61 (.agg [(.slice none 0 0), (.slice none 0 0), (.map none), (.map none)].toArray) 4 64 := TI.mk' Try.underlying61 (by kernel_rfl)
theorem ti72 : TI Try.prog 72 ds72 (.agg [(.int .i64 0), (.int .i64 0), (.int .i64 0), (.int .i64 0)].toArray) 4 32 := TI.mk' Try.underlying72 (by kernel_rfl)
theorem ti74 : TI Try.prog 74 ds74 (.agg [(.int .i64 0), (.int .i64 0), (.int .i64 0), (.int .i64 0)].toArray) 4 32 := TI.mk' Try.underlying74 (by kernel_rfl)

/-! ### plenum/plenumlaw17.Graph (function 8) -/
abbrev f_plenumlaw17_Graph.R := List T_api_Lsa
noncomputable def f_plenumlaw17_Graph.b0 (a0 : Int) (s1 : (List T_api_Lsa) × Int) : Option (Sum ((List T_api_Lsa) × Int) (Sum ((List T_api_Lsa) × Int) f_plenumlaw17_Graph.R)) := (if s1.2 ≤ (IntKind.i64.wrap (1 + (Int.tmod (IntKind.i64.wrap a0) 6))) then (if (s1.1.length + 1) * 144 ≤ 140737488355328 then some (.inl ((s1.1 ++ [(⟨(⟨0, 1, s1.2, s1.2, 0, 0, 0⟩ : T_api_Head), 0, [], 0, [], []⟩ : T_api_Lsa)]), IntKind.i64.wrap (s1.2 + 1))) else none) else some (.inr (.inl (s1.1, s1.2))))
noncomputable def f_plenumlaw17_Graph.b1 (a0 : Int) (a1 : List Int) (a3 : List Bool) (s6 : Int × Int × (List T_api_Lsa)) : Option (Sum (Int × Int × (List T_api_Lsa)) (Sum (Int × Int × (List T_api_Lsa)) f_plenumlaw17_Graph.R)) := ((((if (IntKind.i64.wrap (s6.2.1 + 2)) < (a1.length : Int) then some (.inl (decide (s6.2.1 < 36))) else some (.inl false)) : Option (Sum (Bool) f_plenumlaw17_Graph.R))).bind fun y9 => match y9 with | .inl s7 => (if s7 = true then (if 0 ≤ s6.2.1 then (if s6.2.1 < (a1.length : Int) then (if (IntKind.i64.wrap (1 + (Int.tmod (IntKind.i64.wrap a0) 6))) ≠ 0 then (if 0 ≤ (IntKind.i64.wrap (s6.2.1 + 1)) then (if (IntKind.i64.wrap (s6.2.1 + 1)) < (a1.length : Int) then (if (Int.tmod (IntKind.i64.wrap (rd a1 s6.2.1)) (IntKind.i64.wrap (1 + (Int.tmod (IntKind.i64.wrap a0) 6)))) = (Int.tmod (IntKind.i64.wrap (rd a1 (IntKind.i64.wrap (s6.2.1 + 1)))) (IntKind.i64.wrap (1 + (Int.tmod (IntKind.i64.wrap a0) 6)))) then some (.inl (s6.1, IntKind.i64.wrap (s6.2.1 + 3), s6.2.2)) else (if 0 ≤ (IntKind.i64.wrap (s6.2.1 + 2)) then (if (IntKind.i64.wrap (s6.2.1 + 2)) < (a1.length : Int) then (if 0 ≤ (Int.tmod (IntKind.i64.wrap (rd a1 s6.2.1)) (IntKind.i64.wrap (1 + (Int.tmod (IntKind.i64.wrap a0) 6)))) then (if (Int.tmod (IntKind.i64.wrap (rd a1 s6.2.1)) (IntKind.i64.wrap (1 + (Int.tmod (IntKind.i64.wrap a0) 6)))) < (s6.2.2.length : Int) then (if (((rd s6.2.2 (Int.tmod (IntKind.i64.wrap (rd a1 s6.2.1)) (IntKind.i64.wrap (1 + (Int.tmod (IntKind.i64.wrap a0) 6))))).f_Links).length + 1) * 32 ≤ 140737488355328 then ((((if (a3.length : Int) ≤ s6.1 then some (.inl true) else (if 0 ≤ s6.1 then (if s6.1 < (a3.length : Int) then some (.inl (!(rd a3 s6.1))) else none) else none)) : Option (Sum (Bool) f_plenumlaw17_Graph.R))).bind fun y10 => match y10 with | .inl s8 => (if s8 = true then (if 0 ≤ (Int.tmod (IntKind.i64.wrap (rd a1 (IntKind.i64.wrap (s6.2.1 + 1)))) (IntKind.i64.wrap (1 + (Int.tmod (IntKind.i64.wrap a0) 6)))) then (if (Int.tmod (IntKind.i64.wrap (rd a1 (IntKind.i64.wrap (s6.2.1 + 1)))) (IntKind.i64.wrap (1 + (Int.tmod (IntKind.i64.wrap a0) 6)))) < ((setI s6.2.2 (Int.tmod (IntKind.i64.wrap (rd a1 s6.2.1)) (IntKind.i64.wrap (1 + (Int.tmod (IntKind.i64.wrap a0) 6)))) (⟨(rd s6.2.2 (Int.tmod (IntKind.i64.wrap (rd a1 s6.2.1)) (IntKind.i64.wrap (1 + (Int.tmod (IntKind.i64.wrap a0) 6))))).f_Head, (rd s6.2.2 (Int.tmod (IntKind.i64.wrap (rd a1 s6.2.1)) (IntKind.i64.wrap (1 + (Int.tmod (IntKind.i64.wrap a0) 6))))).f_Flags, ((rd s6.2.2 (Int.tmod (IntKind.i64.wrap (rd a1 s6.2.1)) (IntKind.i64.wrap (1 + (Int.tmod (IntKind.i64.wrap a0) 6))))).f_Links ++ [(⟨1, IntKind.i64.wrap ((Int.tmod (IntKind.i64.wrap (rd a1 (IntKind.i64.wrap (s6.2.1 + 1)))) (IntKind.i64.wrap (1 + (Int.tmod (IntKind.i64.wrap a0) 6)))) + 1), IntKind.i64.wrap (1000 + s6.2.1), IntKind.i64.wrap (1 + (Int.tmod (IntKind.i64.wrap (rd a1 (IntKind.i64.wrap (s6.2.1 + 2)))) 5))⟩ : T_api_Link)]), (rd s6.2.2 (Int.tmod (IntKind.i64.wrap (rd a1 s6.2.1)) (IntKind.i64.wrap (1 + (Int.tmod (IntKind.i64.wrap a0) 6))))).f_Bits, (rd s6.2.2 (Int.tmod (IntKind.i64.wrap (rd a1 s6.2.1)) (IntKind.i64.wrap (1 + (Int.tmod (IntKind.i64.wrap a0) 6))))).f_Routers, (rd s6.2.2 (Int.tmod (IntKind.i64.wrap (rd a1 s6.2.1)) (IntKind.i64.wrap (1 + (Int.tmod (IntKind.i64.wrap a0) 6))))).f_Verts⟩ : T_api_Lsa)).length : Int) then (if (((rd (setI s6.2.2 (Int.tmod (IntKind.i64.wrap (rd a1 s6.2.1)) (IntKind.i64.wrap (1 + (Int.tmod (IntKind.i64.wrap a0) 6)))) (⟨(rd s6.2.2 (Int.tmod (IntKind.i64.wrap (rd a1 s6.2.1)) (IntKind.i64.wrap (1 + (Int.tmod (IntKind.i64.wrap a0) 6))))).f_Head, (rd s6.2.2 (Int.tmod (IntKind.i64.wrap (rd a1 s6.2.1)) (IntKind.i64.wrap (1 + (Int.tmod (IntKind.i64.wrap a0) 6))))).f_Flags, ((rd s6.2.2 (Int.tmod (IntKind.i64.wrap (rd a1 s6.2.1)) (IntKind.i64.wrap (1 + (Int.tmod (IntKind.i64.wrap a0) 6))))).f_Links ++ [(⟨1, IntKind.i64.wrap ((Int.tmod (IntKind.i64.wrap (rd a1 (IntKind.i64.wrap (s6.2.1 + 1)))) (IntKind.i64.wrap (1 + (Int.tmod (IntKind.i64.wrap a0) 6)))) + 1), IntKind.i64.wrap (1000 + s6.2.1), IntKind.i64.wrap (1 + (Int.tmod (IntKind.i64.wrap (rd a1 (IntKind.i64.wrap (s6.2.1 + 2)))) 5))⟩ : T_api_Link)]), (rd s6.2.2 (Int.tmod (IntKind.i64.wrap (rd a1 s6.2.1)) (IntKind.i64.wrap (1 + (Int.tmod (IntKind.i64.wrap a0) 6))))).f_Bits, (rd s6.2.2 (Int.tmod (IntKind.i64.wrap (rd a1 s6.2.1)) (IntKind.i64.wrap (1 + (Int.tmod (IntKind.i64.wrap a0) 6))))).f_Routers, (rd s6.2.2 (Int.tmod (IntKind.i64.wrap (rd a1 s6.2.1)) (IntKind.i64.wrap (1 + (Int.tmod (IntKind.i64.wrap a0) 6))))).f_Verts⟩ : T_api_Lsa)) (Int.tmod (IntKind.i64.wrap (rd a1 (IntKind.i64.wrap (s6.2.1 + 1)))) (IntKind.i64.wrap (1 + (Int.tmod (IntKind.i64.wrap a0) 6))))).f_Links).length + 1) * 32 ≤ 140737488355328 then some (.inl (IntKind.i64.wrap (s6.1 + 1), IntKind.i64.wrap (s6.2.1 + 3), setI (setI s6.2.2 (Int.tmod (IntKind.i64.wrap (rd a1 s6.2.1)) (IntKind.i64.wrap (1 + (Int.tmod (IntKind.i64.wrap a0) 6)))) (⟨(rd s6.2.2 (Int.tmod (IntKind.i64.wrap (rd a1 s6.2.1)) (IntKind.i64.wrap (1 + (Int.tmod (IntKind.i64.wrap a0) 6))))).f_Head, (rd s6.2.2 (Int.tmod (IntKind.i64.wrap (rd a1 s6.2.1)) (IntKind.i64.wrap (1 + (Int.tmod (IntKind.i64.wrap a0) 6))))).f_Flags, ((rd s6.2.2 (Int.tmod (IntKind.i64.wrap (rd a1 s6.2.1)) (IntKind.i64.wrap (1 + (Int.tmod (IntKind.i64.wrap a0) 6))))).f_Links ++ [(⟨1, IntKind.i64.wrap ((Int.tmod (IntKind.i64.wrap (rd a1 (IntKind.i64.wrap (s6.2.1 + 1)))) (IntKind.i64.wrap (1 + (Int.tmod (IntKind.i64.wrap a0) 6)))) + 1), IntKind.i64.wrap (1000 + s6.2.1), IntKind.i64.wrap (1 + (Int.tmod (IntKind.i64.wrap (rd a1 (IntKind.i64.wrap (s6.2.1 + 2)))) 5))⟩ : T_api_Link)]), (rd s6.2.2 (Int.tmod (IntKind.i64.wrap (rd a1 s6.2.1)) (IntKind.i64.wrap (1 + (Int.tmod (IntKind.i64.wrap a0) 6))))).f_Bits, (rd s6.2.2 (Int.tmod (IntKind.i64.wrap (rd a1 s6.2.1)) (IntKind.i64.wrap (1 + (Int.tmod (IntKind.i64.wrap a0) 6))))).f_Routers, (rd s6.2.2 (Int.tmod (IntKind.i64.wrap (rd a1 s6.2.1)) (IntKind.i64.wrap (1 + (Int.tmod (IntKind.i64.wrap a0) 6))))).f_Verts⟩ : T_api_Lsa)) (Int.tmod (IntKind.i64.wrap (rd a1 (IntKind.i64.wrap (s6.2.1 + 1)))) (IntKind.i64.wrap (1 + (Int.tmod (IntKind.i64.wrap a0) 6)))) (⟨(rd (setI s6.2.2 (Int.tmod (IntKind.i64.wrap (rd a1 s6.2.1)) (IntKind.i64.wrap (1 + (Int.tmod (IntKind.i64.wrap a0) 6)))) (⟨(rd s6.2.2 (Int.tmod (IntKind.i64.wrap (rd a1 s6.2.1)) (IntKind.i64.wrap (1 + (Int.tmod (IntKind.i64.wrap a0) 6))))).f_Head, (rd s6.2.2 (Int.tmod (IntKind.i64.wrap (rd a1 s6.2.1)) (IntKind.i64.wrap (1 + (Int.tmod (IntKind.i64.wrap a0) 6))))).f_Flags, ((rd s6.2.2 (Int.tmod (IntKind.i64.wrap (rd a1 s6.2.1)) (IntKind.i64.wrap (1 + (Int.tmod (IntKind.i64.wrap a0) 6))))).f_Links ++ [(⟨1, IntKind.i64.wrap ((Int.tmod (IntKind.i64.wrap (rd a1 (IntKind.i64.wrap (s6.2.1 + 1)))) (IntKind.i64.wrap (1 + (Int.tmod (IntKind.i64.wrap a0) 6)))) + 1), IntKind.i64.wrap (1000 + s6.2.1), IntKind.i64.wrap (1 + (Int.tmod (IntKind.i64.wrap (rd a1 (IntKind.i64.wrap (s6.2.1 + 2)))) 5))⟩ : T_api_Link)]), (rd s6.2.2 (Int.tmod (IntKind.i64.wrap (rd a1 s6.2.1)) (IntKind.i64.wrap (1 + (Int.tmod (IntKind.i64.wrap a0) 6))))).f_Bits, (rd s6.2.2 (Int.tmod (IntKind.i64.wrap (rd a1 s6.2.1)) (IntKind.i64.wrap (1 + (Int.tmod (IntKind.i64.wrap a0) 6))))).f_Routers, (rd s6.2.2 (Int.tmod (IntKind.i64.wrap (rd a1 s6.2.1)) (IntKind.i64.wrap (1 + (Int.tmod (IntKind.i64.wrap a0) 6))))).f_Verts⟩ : T_api_Lsa)) (Int.tmod (IntKind.i64.wrap (rd a1 (IntKind.i64.wrap (s6.2.1 + 1)))) (IntKind.i64.wrap (1 + (Int.tmod (IntKind.i64.wrap a0) 6))))).f_Head, (rd (setI s6.2.2 (Int.tmod (IntKind.i64.wrap (rd a1 s6.2.1)) (IntKind.i64.wrap (1 + (Int.tmod (IntKind.i64.wrap a0) 6)))) (⟨(rd s6.2.2 (Int.tmod (IntKind.i64.wrap (rd a1 s6.2.1)) (IntKind.i64.wrap (1 + (Int.tmod (IntKind.i64.wrap a0) 6))))).f_Head, (rd s6.2.2 (Int.tmod (IntKind.i64.wrap (rd a1 s6.2.1)) (IntKind.i64.wrap (1 + (Int.tmod (IntKind.i64.wrap a0) 6))))).f_Flags, ((rd s6.2.2 (Int.tmod (IntKind.i64.wrap (rd a1 s6.2.1)) (IntKind.i64.wrap (1 + (Int.tmod (IntKind.i64.wrap a0) 6))))).f_Links ++ [(⟨1, IntKind.i64.wrap ((Int.tmod (IntKind.i64.wrap (rd a1 (IntKind.i64.wrap (s6.2.1 + 1)))) (IntKind.i64.wrap (1 + (Int.tmod (IntKind.i64.wrap a0) 6)))) + 1), IntKind.i64.wrap (1000 + s6.2.1), IntKind.i64.wrap (1 + (Int.tmod (IntKind.i64.wrap (rd a1 (IntKind.i64.wrap (s6.2.1 + 2)))) 5))⟩ : T_api_Link)]), (rd s6.2.2 (Int.tmod (IntKind.i64.wrap (rd a1 s6.2.1)) (IntKind.i64.wrap (1 + (Int.tmod (IntKind.i64.wrap a0) 6))))).f_Bits, (rd s6.2.2 (Int.tmod (IntKind.i64.wrap (rd a1 s6.2.1)) (IntKind.i64.wrap (1 + (Int.tmod (IntKind.i64.wrap a0) 6))))).f_Routers, (rd s6.2.2 (Int.tmod (IntKind.i64.wrap (rd a1 s6.2.1)) (IntKind.i64.wrap (1 + (Int.tmod (IntKind.i64.wrap a0) 6))))).f_Verts⟩ : T_api_Lsa)) (Int.tmod (IntKind.i64.wrap (rd a1 (IntKind.i64.wrap (s6.2.1 + 1)))) (IntKind.i64.wrap (1 + (Int.tmod (IntKind.i64.wrap a0) 6))))).f_Flags, ((rd (setI s6.2.2 (Int.tmod (IntKind.i64.wrap (rd a1 s6.2.1)) (IntKind.i64.wrap (1 + (Int.tmod (IntKind.i64.wrap a0) 6)))) (⟨(rd s6.2.2 (Int.tmod (IntKind.i64.wrap (rd a1 s6.2.1)) (IntKind.i64.wrap (1 + (Int.tmod (IntKind.i64.wrap a0) 6))))).f_Head, (rd s6.2.2 (Int.tmod (IntKind.i64.wrap (rd a1 s6.2.1)) (IntKind.i64.wrap (1 + (Int.tmod (IntKind.i64.wrap a0) 6))))).f_Flags, ((rd s6.2.2 (Int.tmod (IntKind.i64.wrap (rd a1 s6.2.1)) (IntKind.i64.wrap (1 + (Int.tmod (IntKind.i64.wrap a0) 6))))).f_Links ++ [(⟨1, IntKind.i64.wrap ((Int.tmod (IntKind.i64.wrap (rd a1 (IntKind.i64.wrap (s6.2.1 + 1)))) (IntKind.i64.wrap (1 + (Int.tmod (IntKind.i64.wrap a0) 6)))) + 1), IntKind.i64.wrap (1000 + s6.2.1), IntKind.i64.wrap (1 + (Int.tmod (IntKind.i64.wrap (rd a1 (IntKind.i64.wrap (s6.2.1 + 2)))) 5))⟩ : T_api_Link)]), (rd s6.2.2 (Int.tmod (IntKind.i64.wrap (rd a1 s6.2.1)) (IntKind.i64.wrap (1 + (Int.tmod (IntKind.i64.wrap a0) 6))))).f_Bits, (rd s6.2.2 (Int.tmod (IntKind.i64.wrap (rd a1 s6.2.1)) (IntKind.i64.wrap (1 + (Int.tmod (IntKind.i64.wrap a0) 6))))).f_Routers, (rd s6.2.2 (Int.tmod (IntKind.i64.wrap (rd a1 s6.2.1)) (IntKind.i64.wrap (1 + (Int.tmod (IntKind.i64.wrap a0) 6))))).f_Verts⟩ : T_api_Lsa)) (Int.tmod (IntKind.i64.wrap (rd a1 (IntKind.i64.wrap (s6.2.1 + 1)))) (IntKind.i64.wrap (1 + (Int.tmod (IntKind.i64.wrap a0) 6))))).f_Links ++ [(⟨1, IntKind.i64.wrap ((Int.tmod (IntKind.i64.wrap (rd a1 s6.2.1)) (IntKind.i64.wrap (1 + (Int.tmod (IntKind.i64.wrap a0) 6)))) + 1), IntKind.i64.wrap (2000 + s6.2.1), IntKind.i64.wrap ((IntKind.i64.wrap (1 + (Int.tmod (IntKind.i64.wrap (rd a1 (IntKind.i64.wrap (s6.2.1 + 2)))) 5))) + (Int.tmod s6.2.1 3))⟩ : T_api_Link)]), (rd (setI s6.2.2 (Int.tmod (IntKind.i64.wrap (rd a1 s6.2.1)) (IntKind.i64.wrap (1 + (Int.tmod (IntKind.i64.wrap a0) 6)))) (⟨(rd s6.2.2 (Int.tmod (IntKind.i64.wrap (rd a1 s6.2.1)) (IntKind.i64.wrap (1 + (Int.tmod (IntKind.i64.wrap a0) 6))))).f_Head, (rd s6.2.2 (Int.tmod (IntKind.i64.wrap (rd a1 s6.2.1)) (IntKind.i64.wrap (1 + (Int.tmod (IntKind.i64.wrap a0) 6))))).f_Flags, ((rd s6.2.2 (Int.tmod (IntKind.i64.wrap (rd a1 s6.2.1)) (IntKind.i64.wrap (1 + (Int.tmod (IntKind.i64.wrap a0) 6))))).f_Links ++ [(⟨1, IntKind.i64.wrap ((Int.tmod (IntKind.i64.wrap (rd a1 (IntKind.i64.wrap (s6.2.1 + 1)))) (IntKind.i64.wrap (1 + (Int.tmod (IntKind.i64.wrap a0) 6)))) + 1), IntKind.i64.wrap (1000 + s6.2.1), IntKind.i64.wrap (1 + (Int.tmod (IntKind.i64.wrap (rd a1 (IntKind.i64.wrap (s6.2.1 + 2)))) 5))⟩ : T_api_Link)]), (rd s6.2.2 (Int.tmod (IntKind.i64.wrap (rd a1 s6.2.1)) (IntKind.i64.wrap (1 + (Int.tmod (IntKind.i64.wrap a0) 6))))).f_Bits, (rd s6.2.2 (Int.tmod (IntKind.i64.wrap (rd a1 s6.2.1)) (IntKind.i64.wrap (1 + (Int.tmod (IntKind.i64.wrap a0) 6))))).f_Routers, (rd s6.2.2 (Int.tmod (IntKind.i64.wrap (rd a1 s6.2.1)) (IntKind.i64.wrap (1 + (Int.tmod (IntKind.i64.wrap a0) 6))))).f_Verts⟩ : T_api_Lsa)) (Int.tmod (IntKind.i64.wrap (rd a1 (IntKind.i64.wrap (s6.2.1 + 1)))) (IntKind.i64.wrap (1 + (Int.tmod (IntKind.i64.wrap a0) 6))))).f_Bits, (rd (setI s6.2.2 (Int.tmod (IntKind.i64.wrap (rd a1 s6.2.1)) (IntKind.i64.wrap (1 + (Int.tmod (IntKind.i64.wrap a0) 6)))) (⟨(rd s6.2.2 (Int.tmod (IntKind.i64.wrap (rd a1 s6.2.1)) (IntKind.i64.wrap (1 + (Int.tmod (IntKind.i64.wrap a0) 6))))).f_Head, (rd s6.2.2 (Int.tmod (IntKind.i64.wrap (rd a1 s6.2.1)) (IntKind.i64.wrap (1 + (Int.tmod (IntKind.i64.wrap a0) 6))))).f_Flags, ((rd s6.2.2 (Int.tmod (IntKind.i64.wrap (rd a1 s6.2.1)) (IntKind.i64.wrap (1 + (Int.tmod (IntKind.i64.wrap a0) 6))))).f_Links ++ [(⟨1, IntKind.i64.wrap ((Int.tmod (IntKind.i64.wrap (rd a1 (IntKind.i64.wrap (s6.2.1 + 1)))) (IntKind.i64.wrap (1 + (Int.tmod (IntKind.i64.wrap a0) 6)))) + 1), IntKind.i64.wrap (1000 + s6.2.1), IntKind.i64.wrap (1 + (Int.tmod (IntKind.i64.wrap (rd a1 (IntKind.i64.wrap (s6.2.1 + 2)))) 5))⟩ : T_api_Link)]), (rd s6.2.2 (Int.tmod (IntKind.i64.wrap (rd a1 s6.2.1)) (IntKind.i64.wrap (1 + (Int.tmod (IntKind.i64.wrap a0) 6))))).f_Bits, (rd s6.2.2 (Int.tmod (IntKind.i64.wrap (rd a1 s6.2.1)) (IntKind.i64.wrap (1 + (Int.tmod (IntKind.i64.wrap a0) 6))))).f_Routers, (rd s6.2.2 (Int.tmod (IntKind.i64.wrap (rd a1 s6.2.1)) (IntKind.i64.wrap (1 + (Int.tmod (IntKind.i64.wrap a0) 6))))).f_Verts⟩ : T_api_Lsa)) (Int.tmod (IntKind.i64.wrap (rd a1 (IntKind.i64.wrap (s6.2.1 + 1)))) (IntKind.i64.wrap (1 + (Int.tmod (IntKind.i64.wrap a0) 6))))).f_Routers, (rd (setI s6.2.2 (Int.tmod (IntKind.i64.wrap (rd a1 s6.2.1)) (IntKind.i64.wrap (1 + (Int.tmod (IntKind.i64.wrap a0) 6)))) (⟨(rd s6.2.2 (Int.tmod (IntKind.i64.wrap (rd a1 s6.2.1)) (IntKind.i64.wrap (1 + (Int.tmod (IntKind.i64.wrap a0) 6))))).f_Head, (rd s6.2.2 (Int.tmod (IntKind.i64.wrap (rd a1 s6.2.1)) (IntKind.i64.wrap (1 + (Int.tmod (IntKind.i64.wrap a0) 6))))).f_Flags, ((rd s6.2.2 (Int.tmod (IntKind.i64.wrap (rd a1 s6.2.1)) (IntKind.i64.wrap (1 + (Int.tmod (IntKind.i64.wrap a0) 6))))).f_Links ++ [(⟨1, IntKind.i64.wrap ((Int.tmod (IntKind.i64.wrap (rd a1 (IntKind.i64.wrap (s6.2.1 + 1)))) (IntKind.i64.wrap (1 + (Int.tmod (IntKind.i64.wrap a0) 6)))) + 1), IntKind.i64.wrap (1000 + s6.2.1), IntKind.i64.wrap (1 + (Int.tmod (IntKind.i64.wrap (rd a1 (IntKind.i64.wrap (s6.2.1 + 2)))) 5))⟩ : T_api_Link)]), (rd s6.2.2 (Int.tmod (IntKind.i64.wrap (rd a1 s6.2.1)) (IntKind.i64.wrap (1 + (Int.tmod (IntKind.i64.wrap a0) 6))))).f_Bits, (rd s6.2.2 (Int.tmod (IntKind.i64.wrap (rd a1 s6.2.1)) (IntKind.i64.wrap (1 + (Int.tmod (IntKind.i64.wrap a0) 6))))).f_Routers, (rd s6.2.2 (Int.tmod (IntKind.i64.wrap (rd a1 s6.2.1)) (IntKind.i64.wrap (1 + (Int.tmod (IntKind.i64.wrap a0) 6))))).f_Verts⟩ : T_api_Lsa)) (Int.tmod (IntKind.i64.wrap (rd a1 (IntKind.i64.wrap (s6.2.1 + 1)))) (IntKind.i64.wrap (1 + (Int.tmod (IntKind.i64.wrap a0) 6))))).f_Verts⟩ : T_api_Lsa))) else none) else none) else none) else some (.inl (IntKind.i64.wrap (s6.1 + 1), IntKind.i64.wrap (s6.2.1 + 3), setI s6.2.2 (Int.tmod (IntKind.i64.wrap (rd a1 s6.2.1)) (IntKind.i64.wrap (1 + (Int.tmod (IntKind.i64.wrap a0) 6)))) (⟨(rd s6.2.2 (Int.tmod (IntKind.i64.wrap (rd a1 s6.2.1)) (IntKind.i64.wrap (1 + (Int.tmod (IntKind.i64.wrap a0) 6))))).f_Head, (rd s6.2.2 (Int.tmod (IntKind.i64.wrap (rd a1 s6.2.1)) (IntKind.i64.wrap (1 + (Int.tmod (IntKind.i64.wrap a0) 6))))).f_Flags, ((rd s6.2.2 (Int.tmod (IntKind.i64.wrap (rd a1 s6.2.1)) (IntKind.i64.wrap (1 + (Int.tmod (IntKind.i64.wrap a0) 6))))).f_Links ++ [(⟨1, IntKind.i64.wrap ((Int.tmod (IntKind.i64.wrap (rd a1 (IntKind.i64.wrap (s6.2.1 + 1)))) (IntKind.i64.wrap (1 + (Int.tmod (IntKind.i64.wrap a0) 6)))) + 1), IntKind.i64.wrap (1000 + s6.2.1), IntKind.i64.wrap (1 + (Int.tmod (IntKind.i64.wrap (rd a1 (IntKind.i64.wrap (s6.2.1 + 2)))) 5))⟩ : T_api_Link)]), (rd s6.2.2 (Int.tmod (IntKind.i64.wrap (rd a1 s6.2.1)) (IntKind.i64.wrap (1 + (Int.tmod (IntKind.i64.wrap a0) 6))))).f_Bits, (rd s6.2.2 (Int.tmod (IntKind.i64.wrap (rd a1 s6.2.1)) (IntKind.i64.wrap (1 + (Int.tmod (IntKind.i64.wrap a0) 6))))).f_Routers, (rd s6.2.2 (Int.tmod (IntKind.i64.wrap (rd a1 s6.2.1)) (IntKind.i64.wrap (1 + (Int.tmod (IntKind.i64.wrap a0) 6))))).f_Verts⟩ : T_api_Lsa)))) | .inr r_ => some (.inr (.inr r_))) else none) else none) else none) else none) else none)) else none) else none) else none) else none) else none) else some (.inr (.inl (s6.1, s6.2.1, s6.2.2)))) | .inr r_ => some (.inr (.inr r_)))
noncomputable def f_plenumlaw17_Graph.b2 (a0 : Int) (a2 : List Int) (a3 : List Bool) (s19 : (List T_api_Lsa) × Int × Int) (s23 : Int × Int × (List Int) × (List T_api_Lsa)) : Option (Sum (Int × Int × (List Int) × (List T_api_Lsa)) (Sum (Int × Int × (List Int) × (List T_api_Lsa)) f_plenumlaw17_Graph.R)) := (if s23.2.1 < (IntKind.i64.wrap (1 + (Int.tmod (IntKind.i64.wrap a0) 6))) then (if 0 ≤ s19.2.2 then (if s19.2.2 < (a2.length : Int) then (if 0 ≤ (IntKind.u64.wrap s23.2.1) then (if (bits .and .u8 (shrI .u8 (rd a2 s19.2.2) (IntKind.u64.wrap s23.2.1)) 1) = 0 then some (.inl (s23.1, IntKind.i64.wrap (s23.2.1 + 1), s23.2.2.1, s23.2.2.2)) else (if (s23.2.2.1.length + 1) * 8 ≤ 140737488355328 then ((((if (a3.length : Int) ≤ s23.1 then some (.inl true) else (if 0 ≤ s23.1 then (if s23.1 < (a3.length : Int) then some (.inl (!(rd a3 s23.1))) else none) else none)) : Option (Sum (Bool) f_plenumlaw17_Graph.R))).bind fun y30 => match y30 with | .inl s24 => (if s24 = true then (if 0 ≤ s23.2.1 then (if s23.2.1 < (s23.2.2.2.length : Int) then (if (((rd s23.2.2.2 s23.2.1).f_Links).length + 1) * 32 ≤ 140737488355328 then some (.inl (IntKind.i64.wrap (s23.1 + 1), IntKind.i64.wrap (s23.2.1 + 1), (s23.2.2.1 ++ [IntKind.i64.wrap (s23.2.1 + 1)]), setI s23.2.2.2 s23.2.1 (⟨(rd s23.2.2.2 s23.2.1).f_Head, (rd s23.2.2.2 s23.2.1).f_Flags, ((rd s23.2.2.2 s23.2.1).f_Links ++ [(⟨2, shlI .i64 (IntKind.i64.wrap (101 + s19.2.2)) 8, IntKind.i64.wrap ((IntKind.i64.wrap ((shlI .i64 (IntKind.i64.wrap (101 + s19.2.2)) 8) + 1)) + s23.2.1), IntKind.i64.wrap (1 + (Int.tmod (IntKind.i64.wrap (s19.2.2 + s23.2.1)) 4))⟩ : T_api_Link)]), (rd s23.2.2.2 s23.2.1).f_Bits, (rd s23.2.2.2 s23.2.1).f_Routers, (rd s23.2.2.2 s23.2.1).f_Verts⟩ : T_api_Lsa))) else none) else none) else none) else some (.inl (IntKind.i64.wrap (s23.1 + 1), IntKind.i64.wrap (s23.2.1 + 1), (s23.2.2.1 ++ [IntKind.i64.wrap (s23.2.1 + 1)]), s23.2.2.2))) | .inr r_ => some (.inr (.inr r_))) else none)) else none) else none) else none) else some (.inr (.inl (s23.1, s23.2.1, s23.2.2.1, s23.2.2.2))))
noncomputable def f_plenumlaw17_Graph.b3 (a0 : Int) (a2 : List Int) (a3 : List Bool) (s19 : (List T_api_Lsa) × Int × Int) : Option (Sum ((List T_api_Lsa) × Int × Int) (Sum ((List T_api_Lsa) × Int × Int) f_plenumlaw17_Graph.R)) := ((((if s19.2.2 < (a2.length : Int) then some (.inl (decide (s19.2.2 < 8))) else some (.inl false)) : Option (Sum (Bool) f_plenumlaw17_Graph.R))).bind fun y25 => match y25 with | .inl s20 => (if s20 = true then (if 0 ≤ s19.2.2 then (if s19.2.2 < (a2.length : Int) then (if (IntKind.i64.wrap (1 + (Int.tmod (IntKind.i64.wrap a0) 6))) ≠ 0 then ((loopO (f_plenumlaw17_Graph.b2 a0 a2 a3 s19) (s19.2.1, 0, [], s19.1)).bind fun y28 => match y28 with | .inl s23 => (if (s23.2.2.2.length + 1) * 144 ≤ 140737488355328 then some (.inl ((s23.2.2.2 ++ [(⟨(⟨0, 2, shlI .i64 (IntKind.i64.wrap (101 + s19.2.2)) 8, IntKind.i64.wrap (1 + (Int.tmod (IntKind.i64.wrap (rd a2 s19.2.2)) (IntKind.i64.wrap (1 + (Int.tmod (IntKind.i64.wrap a0) 6))))), 0, 0, 0⟩ : T_api_Head), 0, [], 24, s23.2.2.1, []⟩ : T_api_Lsa)]), s23.1, IntKind.i64.wrap (s19.2.2 + 1))) else none) | .inr r_ => some (.inr (.inr r_))) else none) else none) else none) else some (.inr (.inl (s19.1, s19.2.1, s19.2.2)))) | .inr r_ => some (.inr (.inr r_)))
noncomputable def f_plenumlaw17_Graph.b4 (a0 : Int) (s25 : Int × (List T_api_Lsa)) : Option (Sum (Int × (List T_api_Lsa)) (Sum (Int × (List T_api_Lsa)) f_plenumlaw17_Graph.R)) := (if s25.1 < (IntKind.i64.wrap (1 + (Int.tmod (IntKind.i64.wrap a0) 6))) then (if 0 ≤ s25.1 then (if s25.1 < (s25.2.length : Int) then (if (((rd s25.2 s25.1).f_Links).length + 1) * 32 ≤ 140737488355328 then some (.inl (IntKind.i64.wrap (s25.1 + 1), setI s25.2 s25.1 (⟨(rd s25.2 s25.1).f_Head, (rd s25.2 s25.1).f_Flags, ((rd s25.2 s25.1).f_Links ++ [(⟨3, shlI .i64 (IntKind.i64.wrap (201 + s25.1)) 8, 4294967040, IntKind.i64.wrap (1 + (Int.tmod s25.1 3))⟩ : T_api_Link)]), (rd s25.2 s25.1).f_Bits, (rd s25.2 s25.1).f_Routers, (rd s25.2 s25.1).f_Verts⟩ : T_api_Lsa))) else none) else none) else none) else some (.inr (.inl (s25.1, s25.2))))
noncomputable def f_plenumlaw17_Graph (a0 : Int) (a1 : List Int) (a2 : List Int) (a3 : List Bool) : Option f_plenumlaw17_Graph.R := ((loopO (f_plenumlaw17_Graph.b0 a0) ([], 1)).bind fun y1 => match y1 with | .inl s1 => ((loopO (f_plenumlaw17_Graph.b1 a0 a1 a3) (0, 0, s1.1)).bind fun y7 => match y7 with | .inl s6 => ((loopO (f_plenumlaw17_Graph.b3 a0 a2 a3) (s6.2.2, s6.1, 0)).bind fun y23 => match y23 with | .inl s19 => ((loopO (f_plenumlaw17_Graph.b4 a0) (0, s19.1)).bind fun y31 => match y31 with | .inl s25 => some s25.2 | .inr r_ => some r_) | .inr r_ => some r_) | .inr r_ => some r_) | .inr r_ => some r_)
set_option maxHeartbeats 1000000 in
theorem f_plenumlaw17_Graph.ok {z w : World} {F G : Hp} (hG : G ⊆ F) {a0 : Int} {a1 : List Int} {A_a1 : Option Addr} {c_a1 : Nat} {X_a1 : Hp} {a2 : List Int} {A_a2 : Option Addr} {c_a2 : Nat} {X_a2 : Hp} {a3 : List Bool} {A_a3 : Option Addr} {c_a3 : Nat} {X_a3 : Hp} {r : f_plenumlaw17_Graph.R} (H : f_plenumlaw17_Graph a0 a1 a2 a3 = some r) (HF : Fits z w F) (hX_a1 : X_a1 ⊆ F) (hr_a1 : RdS (kInt .u8) X_a1 A_a1 c_a1 a1) (hX_a2 : X_a2 ⊆ F) (hr_a2 : RdS (kInt .u8) X_a2 A_a2 c_a2 a2) (hX_a3 : X_a3 ⊆ F) (hr_a3 : RdS kBool X_a3 A_a3 c_a3 a3) :
  Calls Try.prog 8 [.int .u8 a0, .slice A_a1 a1.length c_a1, .slice A_a2 a2.length c_a2, .slice A_a3 a3.length c_a3].toArray w fun e w' => ∃ (N : Hp) (A0 : Option Addr) (c0 : Nat) (L0 : Hp), e = .returned (.slice A0 r.length c0) ∧ Fits z w' (L0 ++ (N ++ F)) ∧ OwnS (kShr (N ++ G) k_T_api_Lsa) L0 A0 c0 r := by
 unfold f_plenumlaw17_Graph at H
 refine enter0 Try.func8 rfl Try.ntmps8 rfl (E := [(0, .int .u8 a0), (1, .slice A_a1 a1.length c_a1), (2, .slice A_a2 a2.length c_a2), (3, .slice A_a3 a3.length c_a3)]) rfl ?_
 refine cSeq (fun K1 hK1 => ?_)
 refine cRgn [] trivial ?_
 refine sL (asg rfl) rfl ?_
 refine lE ?_
 refine kN (?_)
 refine hK1 _ _ ?_
 refine cSeq (fun K2 hK2 => ?_)
 refine cRgn [] trivial ?_
 refine sL (mv rfl) rfl ?_
 refine sL (cvI rfl Try.underlying5 Try.underlying3) rfl ?_
 refine sL (bRem rfl rfl (by decide)) rfl ?_
 refine sL (bAdd rfl rfl) rfl ?_
 refine sL (asg rfl) rfl ?_
 refine lE ?_
 refine kN (?_)
 refine hK2 _ _ ?_
 refine cSeq (fun K3 hK3 => ?_)
 refine cRgn [] trivial ?_
 refine sL (asg rfl) rfl ?_
 refine lE ?_
 refine kN (?_)
 refine hK3 _ _ ?_
 refine cSeq (fun K4 hK4 => ?_)
 refine cSeq (fun K5 hK5 => ?_)
 refine cRgn [] trivial ?_
 refine sL (asg rfl) rfl ?_
 refine lE ?_
 refine kN (?_)
 refine hK5 _ _ ?_
 replace H := bnd H; obtain ⟨y1, J7, Ho1⟩ := H
 refine cLoopB (f_plenumlaw17_Graph.b0 a0) (fun (s1 : (List T_api_Lsa) × Int) a w => ∃ (A6 : Option Addr) (c10 : Nat) (L6 : Hp), Env 235 [(1, .slice A_a1 a1.length c_a1), (2, .slice A_a2 a2.length c_a2), (3, .slice A_a3 a3.length c_a3), (8, .slice none 0 0), (9, .int .i64 (IntKind.i64.wrap (1 + (Int.tmod (IntKind.i64.wrap a0) 6)))), (10, .slice A6 s1.1.length c10), (11, .int .i64 s1.2)] a ∧ Fits z w (L6 ++ F) ∧ OwnS k_T_api_Lsa L6 A6 c10 s1.1) J7 (fun a hE => ⟨none, 0, [], hE.keep (Keep.cons rfl (Keep.cons rfl (Keep.cons rfl (Keep.cons rfl (Keep.cons rfl (Keep.cons rfl (Keep.cons rfl (Keep.nil)))))))), HF, OwnS.nil⟩) ?_ ?_
 ·rintro s1 a w5 y2 ⟨A6, c10, L6, hE, HF8, ho6⟩ H Hx1
  refine go_ hE ?_
  refine cSeq (fun K12 hK12 => ?_)
  refine cSeq (fun K13 hK13 => ?_)
  refine cRgn [] trivial ?_
  refine sL (mv rfl) rfl ?_
  refine sL (mv rfl) rfl ?_
  refine sL (bLeq rfl rfl) rfl ?_
  refine lE ?_
  refine kN (?_)
  refine hK13 _ _ ?_
  by_cases c11 : s1.2 ≤ (IntKind.i64.wrap (1 + (Int.tmod (IntKind.i64.wrap a0) 6)))
  ·replace H := itT c11 H
   refine cSet (i := 27) rfl (dT c11) ?_
   refine cT rfl ?_
   refine cSkip ?_
   refine kN (?_)
   refine hK12 _ _ ?_
   refine cSeq (fun K14 hK14 => ?_)
   refine cBlock ?_
   refine cRgn [] trivial ?_
   refine sL (mv rfl) rfl ?_
   refine sL (mv rfl) rfl ?_
   refine sL (mv rfl) rfl ?_
   refine sL (bd (r := [.int .i64 0, .int .i64 1, .int .i64 s1.2, .int .i64 s1.2, .int .i64 0, .int .i64 0, .int .i64 0]) pl41 ti41 rfl rfl) rfl ?_
   refine sL (bd (r := [.int .i64 0, .int .i64 1, .int .i64 s1.2, .int .i64 s1.2, .int .i64 0, .int .i64 0, .int .i64 0, .int .i64 0, .slice none 0 0, .int .i64 0, .slice none 0 0, .slice none 0 0]) pl44 ti44 rfl rfl) rfl ?_
   have HF9 := Fits.conv (L' := [] ++ (L6 ++ F)) HF8 (by simp only [List.append_assoc, List.nil_append, List.append_nil])
   refine eW (oLitP (r := [.int .i64 0, .int .i64 1, .int .i64 s1.2, .int .i64 s1.2, .int .i64 0, .int .i64 0, .int .i64 0, .int .i64 0, .slice none 0 0, .int .i64 0, .slice none 0 0, .slice none 0 0]) (Le := []) k_T_api_Lsa ([(⟨(⟨0, 1, s1.2, s1.2, 0, 0, 0⟩ : T_api_Head), 0, [], 0, [], []⟩ : T_api_Lsa)] : List T_api_Lsa) HF9 Try.underlying24 ti44 rfl rfl rfl rfl (OwnE.one (K := k_T_api_Lsa) ⟨[], _, [.int .i64 0, .int .i64 1, .int .i64 s1.2, .int .i64 s1.2, .int .i64 0, .int .i64 0, .int .i64 0], _, rfl, rfl, ⟨rfl, rfl⟩, ⟨[], _, [.int .i64 0], _, rfl, rfl, ⟨rfl, rfl⟩, ⟨[], _, [.slice none 0 0], _, rfl, rfl, ⟨_, _, rfl, OwnS.nil⟩, ⟨[], _, [.int .i64 0], _, rfl, rfl, ⟨rfl, rfl⟩, ⟨[], _, [.slice none 0 0], _, rfl, rfl, ⟨_, _, rfl, OwnS.nil⟩, ⟨_, _, rfl, OwnS.nil⟩⟩⟩⟩⟩⟩) rfl rfl) rfl ?_
   rintro _ w6 ⟨L7, A7, c12, rfl, HF10, ho7⟩
   replace H := chk H; obtain ⟨c13, H⟩ := H
   have HF11 := HF10.perm (perm_f pR)
   refine eW (oAppP (xs := s1.1) (ys := ([(⟨(⟨0, 1, s1.2, s1.2, 0, 0, 0⟩ : T_api_Head), 0, [], 0, [], []⟩ : T_api_Lsa)])) k_T_api_Lsa HF11 rfl rfl Try.underlying24 Try.underlying24 ti44 rfl ho6 ho7 c13 rfl) rfl ?_
   rintro _ w7 ⟨L8, A8, c14, rfl, HF12, ho8⟩
   refine sL (asg rfl) rfl ?_
   refine lE ?_
   refine jN (kN (?_))
   refine hK14 _ _ ?_
   refine cRgn [] trivial ?_
   refine sL (mv rfl) rfl ?_
   refine sL (bAdd rfl rfl) rfl ?_
   refine sL (asg rfl) rfl ?_
   refine lE ?_
   refine kN (?_)
   exact ofEnv (fun a hE => ⟨_, (Option.some.inj H).symm, ⟨_, _, L8, hE.keep (Keep.cons rfl (Keep.cons rfl (Keep.cons rfl (Keep.cons rfl (Keep.cons rfl (Keep.cons rfl (Keep.cons rfl (Keep.nil)))))))), HF12, ho8⟩⟩)
  replace H := itF c11 H
  refine cSet (i := 27) rfl (dF c11) ?_
  refine cF rfl ?_
  refine cExit ?_
  refine kX (kX (jX (kN (?_))))
  exact ofEnv (fun a hE => ⟨_, (Option.some.inj H).symm, ⟨_, _, L6, hE.keep (Keep.cons rfl (Keep.cons rfl (Keep.cons rfl (Keep.cons rfl (Keep.cons rfl (Keep.cons rfl (Keep.cons rfl (Keep.nil)))))))), HF8, ho6⟩⟩)
 rintro s1 a w8 rfl ⟨A6, c10, L6, hE, HF13, ho6⟩
 replace H := Ho1
 refine go_k hE ?_
 refine kN (?_)
 refine hK4 _ _ ?_
 refine cSeq (fun K15 hK15 => ?_)
 refine cRgn [] trivial ?_
 refine sL (asg rfl) rfl ?_
 refine lE ?_
 refine kN (?_)
 refine hK15 _ _ ?_
 refine cSeq (fun K16 hK16 => ?_)
 refine cSeq (fun K17 hK17 => ?_)
 refine cRgn [] trivial ?_
 refine sL (asg rfl) rfl ?_
 refine lE ?_
 refine kN (?_)
 refine hK17 _ _ ?_
 replace H := bnd H; obtain ⟨y7, J6, Ho6⟩ := H
 refine cLoopB (f_plenumlaw17_Graph.b1 a0 a1 a3) (fun (s6 : Int × Int × (List T_api_Lsa)) a w => ∃ (L30 : Hp), Env 235 [(1, .slice A_a1 a1.length c_a1), (2, .slice A_a2 a2.length c_a2), (3, .slice A_a3 a3.length c_a3), (8, .slice none 0 0), (9, .int .i64 (IntKind.i64.wrap (1 + (Int.tmod (IntKind.i64.wrap a0) 6)))), (10, .slice A6 s6.2.2.length c10), (12, .int .i64 s6.1), (13, .int .i64 s6.2.1)] a ∧ Fits z w (L30 ++ F) ∧ OwnS k_T_api_Lsa L30 A6 c10 s6.2.2) J6 (fun a hE => ⟨L6, hE.keep (Keep.cons rfl (Keep.cons rfl (Keep.cons rfl (Keep.cons rfl (Keep.cons rfl (Keep.cons rfl (Keep.cons rfl (Keep.cons rfl (Keep.nil))))))))), HF13, ho6⟩) ?_ ?_
 ·rintro s6 a w27 y8 ⟨L30, hE, HF48, ho26⟩ H Hx2
  refine go_ hE ?_
  refine cSeq (fun K38 hK38 => ?_)
  refine cSeq (fun K39 hK39 => ?_)
  replace H := bnd H; obtain ⟨y9, H, Ho7⟩ := H
  refine cJoin (y := y9) (fun (s7 : Bool) a w => Env 235 [(1, .slice A_a1 a1.length c_a1), (2, .slice A_a2 a2.length c_a2), (3, .slice A_a3 a3.length c_a3), (8, .slice none 0 0), (9, .int .i64 (IntKind.i64.wrap (1 + (Int.tmod (IntKind.i64.wrap a0) 6)))), (10, .slice A6 s6.2.2.length c10), (12, .int .i64 s6.1), (13, .int .i64 s6.2.1), (45, .bool s7)] a ∧ Fits z w (L30 ++ F)) ?_ ?_
  ·refine cRgn [(5, 42)] ⟨rfl, trivial⟩ ?_
   refine sL (mv rfl) rfl ?_
   refine sL (bAdd rfl rfl) rfl ?_
   refine sL (mv rfl) rfl ?_
   refine sL (lnS rfl Try.underlying22) rfl ?_
   refine sL (bLss rfl rfl) rfl ?_
   refine sL (mv rfl) rfl ?_
   by_cases c94 : (IntKind.i64.wrap (s6.2.1 + 2)) < (a1.length : Int)
   ·replace H := itT c94 H
    refine lSet (i := 42) rfl (dT c94) ?_
    refine sG rfl rfl (mv rfl) rfl ?_
    refine sG rfl rfl (bLss rfl rfl) rfl ?_
    refine sL (pkT rfl rfl) rfl ?_
    refine lE ?_
    refine kN (?_)
    exact ofEnv (fun a hE => ⟨_, (Option.some.inj H).symm, ⟨hE.keep (Keep.cons rfl (Keep.cons rfl (Keep.cons rfl (Keep.cons rfl (Keep.cons rfl (Keep.cons rfl (Keep.cons rfl (Keep.cons rfl (Keep.cons rfl (Keep.nil)))))))))), HF48⟩⟩)
   replace H := itF c94 H
   refine lSet (i := 42) rfl (dF c94) ?_
   refine sN rfl rfl rfl rfl ?_
   refine sN rfl rfl rfl rfl ?_
   refine sL (pkF rfl rfl) rfl ?_
   refine lE ?_
   refine kN (?_)
   exact ofEnv (fun a hE => ⟨_, (Option.some.inj H).symm, ⟨hE.keep (Keep.cons rfl (Keep.cons rfl (Keep.cons rfl (Keep.cons rfl (Keep.cons rfl (Keep.cons rfl (Keep.cons rfl (Keep.cons rfl (Keep.cons rfl (Keep.nil)))))))))), HF48⟩⟩)
  rintro s7 a w28 rfl ⟨hE, HF49⟩
  replace H := Ho7
  refine go_k hE ?_
  refine kN (?_)
  refine hK39 _ _ ?_
  by_cases c95 : s7 = true
  ·replace H := itT c95 H
   refine cSet (i := 45) rfl (vT c95) ?_
   refine cT rfl ?_
   refine cSkip ?_
   refine kN (?_)
   refine hK38 _ _ ?_
   refine cSeq (fun K40 hK40 => ?_)
   refine cBlock ?_
   refine cSeq (fun K41 hK41 => ?_)
   refine cDraw mo_ HF49 rfl (fun w => Fits z w (L30 ++ F)) (fun w29 HF50 => ?_)
   refine hT 0 rfl (by kernel_rfl) (fun w_ hS_ => mv rfl) HF50 rfl rfl ?_
   refine hT 1 rfl (by kernel_rfl) (fun w_ hS_ => mv rfl) HF50 rfl rfl ?_
   replace H := chk H; obtain ⟨c101, H⟩ := H
   replace H := chk H; obtain ⟨c102, H⟩ := H
   obtain ⟨g12, o12, _, rfl, rfl, q25⟩ := RdS.at_ hr_a1 c101 c102
   refine hT 2 rfl (by kernel_rfl) (fun w_ hS_ => ia rfl rfl Try.underlying22 ti5 c101 c102) HF50 rfl rfl ?_
   refine hT 3 rfl (by kernel_rfl) (fun w_ hS_ => ld rfl Try.underlying5 rfl (hS_.cells ((sub_a hX_a1)) (q25 0 _ rfl))) HF50 rfl rfl ?_
   refine hT 4 rfl (by kernel_rfl) (fun w_ hS_ => cvI rfl Try.underlying5 Try.underlying3) HF50 rfl rfl ?_
   refine hT 5 rfl (by kernel_rfl) (fun w_ hS_ => mv rfl) HF50 rfl rfl ?_
   replace H := chk H; obtain ⟨c103, H⟩ := H
   refine hT 6 rfl (by kernel_rfl) (fun w_ hS_ => bRem rfl rfl c103) HF50 rfl rfl ?_
   refine hT 7 rfl (by kernel_rfl) (fun w_ hS_ => mv rfl) HF50 rfl rfl ?_
   refine hT 8 rfl (by kernel_rfl) (fun w_ hS_ => mv rfl) HF50 rfl rfl ?_
   refine hT 9 rfl (by kernel_rfl) (fun w_ hS_ => bAdd rfl rfl) HF50 rfl rfl ?_
   replace H := chk H; obtain ⟨c104, H⟩ := H
   replace H := chk H; obtain ⟨c105, H⟩ := H
   obtain ⟨_, rfl, q26⟩ := RdS.at' hr_a1 c104 c105
   refine hT 10 rfl (by kernel_rfl) (fun w_ hS_ => ia rfl rfl Try.underlying22 ti5 c104 c105) HF50 rfl rfl ?_
   refine hT 11 rfl (by kernel_rfl) (fun w_ hS_ => ld rfl Try.underlying5 rfl (hS_.cells ((sub_a hX_a1)) (q26 0 _ rfl))) HF50 rfl rfl ?_
   refine hT 12 rfl (by kernel_rfl) (fun w_ hS_ => cvI rfl Try.underlying5 Try.underlying3) HF50 rfl rfl ?_
   refine hT 13 rfl (by kernel_rfl) (fun w_ hS_ => mv rfl) HF50 rfl rfl ?_
   refine hT 14 rfl (by kernel_rfl) (fun w_ hS_ => bRem rfl rfl c103) HF50 rfl rfl ?_
   refine hT 15 rfl (by kernel_rfl) (fun w_ hS_ => asg rfl) HF50 rfl rfl ?_
   refine hT 16 rfl (by kernel_rfl) (fun w_ hS_ => asg rfl) HF50 rfl rfl ?_
   refine hEnd (by kernel_rfl) ?_
   refine kN (?_)
   refine hK41 _ _ ?_
   refine cSeq (fun K42 hK42 => ?_)
   refine cSeq (fun K43 hK43 => ?_)
   refine cRgn [] trivial ?_
   refine sL (mv rfl) rfl ?_
   refine sL (mv rfl) rfl ?_
   refine sL (bEql rfl rfl) rfl ?_
   refine lE ?_
   refine kN (?_)
   refine hK43 _ _ ?_
   by_cases c106 : (Int.tmod (IntKind.i64.wrap (rd a1 s6.2.1)) (IntKind.i64.wrap (1 + (Int.tmod (IntKind.i64.wrap a0) 6)))) = (Int.tmod (IntKind.i64.wrap (rd a1 (IntKind.i64.wrap (s6.2.1 + 1)))) (IntKind.i64.wrap (1 + (Int.tmod (IntKind.i64.wrap a0) 6))))
   ·replace H := itT c106 H
    refine cSet (i := 65) rfl (dT c106) ?_
    refine cT rfl ?_
    refine cExit ?_
    refine kX (jX (kN (?_)))
    refine hK40 _ _ ?_
    refine cRgn [] trivial ?_
    refine sL (mv rfl) rfl ?_
    refine sL (bAdd rfl rfl) rfl ?_
    refine sL (asg rfl) rfl ?_
    refine lE ?_
    refine kN (?_)
    exact ofEnv (fun a hE => ⟨_, (Option.some.inj H).symm, ⟨L30, hE.keep (Keep.cons rfl (Keep.cons rfl (Keep.cons rfl (Keep.cons rfl (Keep.cons rfl (Keep.cons rfl (Keep.cons rfl (Keep.cons rfl (Keep.nil))))))))), HF50, ho26⟩⟩)
   replace H := itF c106 H
   refine cSet (i := 65) rfl (dF c106) ?_
   refine cF rfl ?_
   refine cSkip ?_
   refine kN (?_)
   refine hK42 _ _ ?_
   refine cSeq (fun K44 hK44 => ?_)
   refine cRgn [] trivial ?_
   refine sL (mv rfl) rfl ?_
   refine sL (mv rfl) rfl ?_
   refine sL (bAdd rfl rfl) rfl ?_
   replace H := chk H; obtain ⟨c107, H⟩ := H
   replace H := chk H; obtain ⟨c108, H⟩ := H
   obtain ⟨_, rfl, q27⟩ := RdS.at' hr_a1 c107 c108
   refine sL (ia rfl rfl Try.underlying22 ti5 c107 c108) rfl ?_
   refine sL (ld rfl Try.underlying5 rfl (HF50.cells ((sub_a hX_a1)) (q27 0 _ rfl))) rfl ?_
   refine sL (cvI rfl Try.underlying5 Try.underlying3) rfl ?_
   refine sL (bRem rfl rfl (by decide)) rfl ?_
   refine sL (bAdd rfl rfl) rfl ?_
   refine sL (asg rfl) rfl ?_
   refine lE ?_
   refine kN (?_)
   refine hK44 _ _ ?_
   refine cSeq (fun K45 hK45 => ?_)
   refine cRgn [] trivial ?_
   refine sL (mv rfl) rfl ?_
   refine sL (mv rfl) rfl ?_
   refine sL (mv rfl) rfl ?_
   refine sL (mv rfl) rfl ?_
   replace H := chk H; obtain ⟨c109, H⟩ := H
   replace H := chk H; obtain ⟨c110, H⟩ := H
   obtain ⟨g13, o13, e33, rfl, hk5, q28⟩ := RdS.at_ ho26.rd c109 c110
   obtain ⟨A33, c111, A34, c112, A35, c113, rfl, hr13, hr14, hr15⟩ := rd_T_api_Lsa hk5
   refine sL (ia rfl rfl Try.underlying24 ti44 c109 c110) rfl ?_
   refine sL (fa44_2 rfl) rfl ?_
   obtain ⟨L31, L32, A36, c114, HF51, hc5, ho27, hl5⟩ := OwnS.focF (i := (Int.tmod (IntKind.i64.wrap (rd a1 s6.2.1)) (IntKind.i64.wrap (1 + (Int.tmod (IntKind.i64.wrap a0) 6))))) slf44_8 HF50 ho26 c109 c110
   refine sL (ld rfl Try.underlying42 rfl (HF51.cells (sub_a sub_h) hc5)) rfl ?_
   refine sL (mv rfl) rfl ?_
   refine sL (bAdd rfl rfl) rfl ?_
   refine sL (mv rfl) rfl ?_
   refine sL (bAdd rfl rfl) rfl ?_
   refine sL (mv rfl) rfl ?_
   refine sL (bd (r := [.int .i64 1, .int .i64 (IntKind.i64.wrap ((Int.tmod (IntKind.i64.wrap (rd a1 (IntKind.i64.wrap (s6.2.1 + 1)))) (IntKind.i64.wrap (1 + (Int.tmod (IntKind.i64.wrap a0) 6)))) + 1)), .int .i64 (IntKind.i64.wrap (1000 + s6.2.1)), .int .i64 (IntKind.i64.wrap (1 + (Int.tmod (IntKind.i64.wrap (rd a1 (IntKind.i64.wrap (s6.2.1 + 2)))) 5)))]) pl56 ti56 rfl rfl) rfl ?_
   refine eW (oLit (r := [.int .i64 1, .int .i64 (IntKind.i64.wrap ((Int.tmod (IntKind.i64.wrap (rd a1 (IntKind.i64.wrap (s6.2.1 + 1)))) (IntKind.i64.wrap (1 + (Int.tmod (IntKind.i64.wrap a0) 6)))) + 1)), .int .i64 (IntKind.i64.wrap (1000 + s6.2.1)), .int .i64 (IntKind.i64.wrap (1 + (Int.tmod (IntKind.i64.wrap (rd a1 (IntKind.i64.wrap (s6.2.1 + 2)))) 5)))]) k_T_api_Link [(⟨1, IntKind.i64.wrap ((Int.tmod (IntKind.i64.wrap (rd a1 (IntKind.i64.wrap (s6.2.1 + 1)))) (IntKind.i64.wrap (1 + (Int.tmod (IntKind.i64.wrap a0) 6)))) + 1), IntKind.i64.wrap (1000 + s6.2.1), IntKind.i64.wrap (1 + (Int.tmod (IntKind.i64.wrap (rd a1 (IntKind.i64.wrap (s6.2.1 + 2)))) 5))⟩ : T_api_Link)] HF51 Try.underlying42 ti56 rfl rfl rfl rfl ⟨[], [], [.int .i64 1, .int .i64 (IntKind.i64.wrap ((Int.tmod (IntKind.i64.wrap (rd a1 (IntKind.i64.wrap (s6.2.1 + 1)))) (IntKind.i64.wrap (1 + (Int.tmod (IntKind.i64.wrap a0) 6)))) + 1)), .int .i64 (IntKind.i64.wrap (1000 + s6.2.1)), .int .i64 (IntKind.i64.wrap (1 + (Int.tmod (IntKind.i64.wrap (rd a1 (IntKind.i64.wrap (s6.2.1 + 2)))) 5)))], _, rfl, rfl, ⟨rfl, rfl⟩, ⟨rfl, rfl⟩⟩ rfl rfl) rfl ?_
   rintro _ w30 ⟨L33, A37, c115, rfl, HF52, ho28⟩
   replace H := chk H; obtain ⟨c116, H⟩ := H
   have HF53 := HF52.perm (perm_f pR)
   refine eW (oApp (xs := (rd s6.2.2 (Int.tmod (IntKind.i64.wrap (rd a1 s6.2.1)) (IntKind.i64.wrap (1 + (Int.tmod (IntKind.i64.wrap a0) 6))))).f_Links) (ys := ([(⟨1, IntKind.i64.wrap ((Int.tmod (IntKind.i64.wrap (rd a1 (IntKind.i64.wrap (s6.2.1 + 1)))) (IntKind.i64.wrap (1 + (Int.tmod (IntKind.i64.wrap a0) 6)))) + 1), IntKind.i64.wrap (1000 + s6.2.1), IntKind.i64.wrap (1 + (Int.tmod (IntKind.i64.wrap (rd a1 (IntKind.i64.wrap (s6.2.1 + 2)))) 5))⟩ : T_api_Link)])) k_T_api_Link HF53 rfl rfl Try.underlying42 Try.underlying42 ti56 rfl ho27 (srcR shrF ho28.rd HF53 (sub_a sub_h)) c116 rfl) rfl ?_
   rintro _ w31 ⟨L34, A38, c117, rfl, HF54, ho29⟩
   refine sL (ia rfl rfl Try.underlying24 ti44 c109 c110) rfl ?_
   refine sL (fa44_2 rfl) rfl ?_
   have HF55 := HF54.perm (perm_f (perm_f pR))
   have HF56 := HF55.perm (perm_f pR)
   refine eS (oStF HF56 hl5 ho29 rfl rfl ti42) ?_
   rintro w32 ⟨L35, HF57, ho30⟩
   refine lSet (i := 10) (v := .slice (some ⟨g13, o13, none⟩) (setI s6.2.2 (Int.tmod (IntKind.i64.wrap (rd a1 s6.2.1)) (IntKind.i64.wrap (1 + (Int.tmod (IntKind.i64.wrap a0) 6)))) (⟨(rd s6.2.2 (Int.tmod (IntKind.i64.wrap (rd a1 s6.2.1)) (IntKind.i64.wrap (1 + (Int.tmod (IntKind.i64.wrap a0) 6))))).f_Head, (rd s6.2.2 (Int.tmod (IntKind.i64.wrap (rd a1 s6.2.1)) (IntKind.i64.wrap (1 + (Int.tmod (IntKind.i64.wrap a0) 6))))).f_Flags, ((rd s6.2.2 (Int.tmod (IntKind.i64.wrap (rd a1 s6.2.1)) (IntKind.i64.wrap (1 + (Int.tmod (IntKind.i64.wrap a0) 6))))).f_Links ++ [(⟨1, IntKind.i64.wrap ((Int.tmod (IntKind.i64.wrap (rd a1 (IntKind.i64.wrap (s6.2.1 + 1)))) (IntKind.i64.wrap (1 + (Int.tmod (IntKind.i64.wrap a0) 6)))) + 1), IntKind.i64.wrap (1000 + s6.2.1), IntKind.i64.wrap (1 + (Int.tmod (IntKind.i64.wrap (rd a1 (IntKind.i64.wrap (s6.2.1 + 2)))) 5))⟩ : T_api_Link)]), (rd s6.2.2 (Int.tmod (IntKind.i64.wrap (rd a1 s6.2.1)) (IntKind.i64.wrap (1 + (Int.tmod (IntKind.i64.wrap a0) 6))))).f_Bits, (rd s6.2.2 (Int.tmod (IntKind.i64.wrap (rd a1 s6.2.1)) (IntKind.i64.wrap (1 + (Int.tmod (IntKind.i64.wrap a0) 6))))).f_Routers, (rd s6.2.2 (Int.tmod (IntKind.i64.wrap (rd a1 s6.2.1)) (IntKind.i64.wrap (1 + (Int.tmod (IntKind.i64.wrap a0) 6))))).f_Verts⟩ : T_api_Lsa)).length c10) rfl (by simp only [len_setI]) ?_
   refine lSet (i := 74) (v := .slice (some ⟨g13, o13, none⟩) (setI s6.2.2 (Int.tmod (IntKind.i64.wrap (rd a1 s6.2.1)) (IntKind.i64.wrap (1 + (Int.tmod (IntKind.i64.wrap a0) 6)))) (⟨(rd s6.2.2 (Int.tmod (IntKind.i64.wrap (rd a1 s6.2.1)) (IntKind.i64.wrap (1 + (Int.tmod (IntKind.i64.wrap a0) 6))))).f_Head, (rd s6.2.2 (Int.tmod (IntKind.i64.wrap (rd a1 s6.2.1)) (IntKind.i64.wrap (1 + (Int.tmod (IntKind.i64.wrap a0) 6))))).f_Flags, ((rd s6.2.2 (Int.tmod (IntKind.i64.wrap (rd a1 s6.2.1)) (IntKind.i64.wrap (1 + (Int.tmod (IntKind.i64.wrap a0) 6))))).f_Links ++ [(⟨1, IntKind.i64.wrap ((Int.tmod (IntKind.i64.wrap (rd a1 (IntKind.i64.wrap (s6.2.1 + 1)))) (IntKind.i64.wrap (1 + (Int.tmod (IntKind.i64.wrap a0) 6)))) + 1), IntKind.i64.wrap (1000 + s6.2.1), IntKind.i64.wrap (1 + (Int.tmod (IntKind.i64.wrap (rd a1 (IntKind.i64.wrap (s6.2.1 + 2)))) 5))⟩ : T_api_Link)]), (rd s6.2.2 (Int.tmod (IntKind.i64.wrap (rd a1 s6.2.1)) (IntKind.i64.wrap (1 + (Int.tmod (IntKind.i64.wrap a0) 6))))).f_Bits, (rd s6.2.2 (Int.tmod (IntKind.i64.wrap (rd a1 s6.2.1)) (IntKind.i64.wrap (1 + (Int.tmod (IntKind.i64.wrap a0) 6))))).f_Routers, (rd s6.2.2 (Int.tmod (IntKind.i64.wrap (rd a1 s6.2.1)) (IntKind.i64.wrap (1 + (Int.tmod (IntKind.i64.wrap a0) 6))))).f_Verts⟩ : T_api_Lsa)).length c10) rfl (by simp only [len_setI]) ?_
   refine lSet (i := 76) (v := .slice (some ⟨g13, o13, none⟩) (setI s6.2.2 (Int.tmod (IntKind.i64.wrap (rd a1 s6.2.1)) (IntKind.i64.wrap (1 + (Int.tmod (IntKind.i64.wrap a0) 6)))) (⟨(rd s6.2.2 (Int.tmod (IntKind.i64.wrap (rd a1 s6.2.1)) (IntKind.i64.wrap (1 + (Int.tmod (IntKind.i64.wrap a0) 6))))).f_Head, (rd s6.2.2 (Int.tmod (IntKind.i64.wrap (rd a1 s6.2.1)) (IntKind.i64.wrap (1 + (Int.tmod (IntKind.i64.wrap a0) 6))))).f_Flags, ((rd s6.2.2 (Int.tmod (IntKind.i64.wrap (rd a1 s6.2.1)) (IntKind.i64.wrap (1 + (Int.tmod (IntKind.i64.wrap a0) 6))))).f_Links ++ [(⟨1, IntKind.i64.wrap ((Int.tmod (IntKind.i64.wrap (rd a1 (IntKind.i64.wrap (s6.2.1 + 1)))) (IntKind.i64.wrap (1 + (Int.tmod (IntKind.i64.wrap a0) 6)))) + 1), IntKind.i64.wrap (1000 + s6.2.1), IntKind.i64.wrap (1 + (Int.tmod (IntKind.i64.wrap (rd a1 (IntKind.i64.wrap (s6.2.1 + 2)))) 5))⟩ : T_api_Link)]), (rd s6.2.2 (Int.tmod (IntKind.i64.wrap (rd a1 s6.2.1)) (IntKind.i64.wrap (1 + (Int.tmod (IntKind.i64.wrap a0) 6))))).f_Bits, (rd s6.2.2 (Int.tmod (IntKind.i64.wrap (rd a1 s6.2.1)) (IntKind.i64.wrap (1 + (Int.tmod (IntKind.i64.wrap a0) 6))))).f_Routers, (rd s6.2.2 (Int.tmod (IntKind.i64.wrap (rd a1 s6.2.1)) (IntKind.i64.wrap (1 + (Int.tmod (IntKind.i64.wrap a0) 6))))).f_Verts⟩ : T_api_Lsa)).length c10) rfl (by simp only [len_setI]) ?_
   refine lE ?_
   refine kN (?_)
   refine hK45 _ _ ?_
   refine cSeq (fun K46 hK46 => ?_)
   refine cSeq (fun K47 hK47 => ?_)
   replace H := bnd H; obtain ⟨y10, H, Ho8⟩ := H
   refine cJoin (y := y10) (fun (s8 : Bool) a w => Env 235 [(1, .slice (some ⟨g12, o12, none⟩) a1.length c_a1), (2, .slice A_a2 a2.length c_a2), (3, .slice A_a3 a3.length c_a3), (8, .slice none 0 0), (9, .int .i64 (IntKind.i64.wrap (1 + (Int.tmod (IntKind.i64.wrap a0) 6)))), (10, .slice (some ⟨g13, o13, none⟩) (setI s6.2.2 (Int.tmod (IntKind.i64.wrap (rd a1 s6.2.1)) (IntKind.i64.wrap (1 + (Int.tmod (IntKind.i64.wrap a0) 6)))) (⟨(rd s6.2.2 (Int.tmod (IntKind.i64.wrap (rd a1 s6.2.1)) (IntKind.i64.wrap (1 + (Int.tmod (IntKind.i64.wrap a0) 6))))).f_Head, (rd s6.2.2 (Int.tmod (IntKind.i64.wrap (rd a1 s6.2.1)) (IntKind.i64.wrap (1 + (Int.tmod (IntKind.i64.wrap a0) 6))))).f_Flags, ((rd s6.2.2 (Int.tmod (IntKind.i64.wrap (rd a1 s6.2.1)) (IntKind.i64.wrap (1 + (Int.tmod (IntKind.i64.wrap a0) 6))))).f_Links ++ [(⟨1, IntKind.i64.wrap ((Int.tmod (IntKind.i64.wrap (rd a1 (IntKind.i64.wrap (s6.2.1 + 1)))) (IntKind.i64.wrap (1 + (Int.tmod (IntKind.i64.wrap a0) 6)))) + 1), IntKind.i64.wrap (1000 + s6.2.1), IntKind.i64.wrap (1 + (Int.tmod (IntKind.i64.wrap (rd a1 (IntKind.i64.wrap (s6.2.1 + 2)))) 5))⟩ : T_api_Link)]), (rd s6.2.2 (Int.tmod (IntKind.i64.wrap (rd a1 s6.2.1)) (IntKind.i64.wrap (1 + (Int.tmod (IntKind.i64.wrap a0) 6))))).f_Bits, (rd s6.2.2 (Int.tmod (IntKind.i64.wrap (rd a1 s6.2.1)) (IntKind.i64.wrap (1 + (Int.tmod (IntKind.i64.wrap a0) 6))))).f_Routers, (rd s6.2.2 (Int.tmod (IntKind.i64.wrap (rd a1 s6.2.1)) (IntKind.i64.wrap (1 + (Int.tmod (IntKind.i64.wrap a0) 6))))).f_Verts⟩ : T_api_Lsa)).length c10), (12, .int .i64 s6.1), (13, .int .i64 s6.2.1), (14, .int .i64 (Int.tmod (IntKind.i64.wrap (rd a1 s6.2.1)) (IntKind.i64.wrap (1 + (Int.tmod (IntKind.i64.wrap a0) 6))))), (15, .int .i64 (Int.tmod (IntKind.i64.wrap (rd a1 (IntKind.i64.wrap (s6.2.1 + 1)))) (IntKind.i64.wrap (1 + (Int.tmod (IntKind.i64.wrap a0) 6))))), (16, .int .i64 (IntKind.i64.wrap (1 + (Int.tmod (IntKind.i64.wrap (rd a1 (IntKind.i64.wrap (s6.2.1 + 2)))) 5)))), (101, .bool s8)] a ∧ Fits z w (L35 ++ F)) ?_ ?_
   ·refine cRgn [(4, 95)] ⟨rfl, trivial⟩ ?_
    refine sL (mv rfl) rfl ?_
    refine sL (mv rfl) rfl ?_
    refine sL (lnS rfl Try.underlying23) rfl ?_
    refine sL (bGeq rfl rfl) rfl ?_
    refine sL (mv rfl) rfl ?_
    by_cases c121 : (a3.length : Int) ≤ s6.1
    ·replace H := itT c121 H
     refine lSet (i := 95) rfl (dT c121) ?_
     refine sN rfl rfl rfl rfl ?_
     refine sN rfl rfl rfl rfl ?_
     refine sN rfl rfl rfl rfl ?_
     refine sN rfl rfl rfl rfl ?_
     refine sN rfl rfl rfl rfl ?_
     refine sL (pkT rfl rfl) rfl ?_
     refine lE ?_
     refine kN (?_)
     have HF58 := HF57.sublist (sl_a (sl_da sR))
     exact ofEnv (fun a hE => ⟨_, (Option.some.inj H).symm, ⟨hE.keep (Keep.cons rfl (Keep.cons rfl (Keep.cons rfl (Keep.cons rfl (Keep.cons rfl (Keep.cons rfl (Keep.cons rfl (Keep.cons rfl (Keep.cons rfl (Keep.cons rfl (Keep.cons rfl (Keep.cons rfl (Keep.nil))))))))))))), HF58⟩⟩)
    replace H := itF c121 H
    refine lSet (i := 95) rfl (dF c121) ?_
    refine sG rfl rfl (mv rfl) rfl ?_
    refine sG rfl rfl (mv rfl) rfl ?_
    replace H := chk H; obtain ⟨c122, H⟩ := H
    replace H := chk H; obtain ⟨c123, H⟩ := H
    obtain ⟨g15, o15, _, rfl, rfl, q31⟩ := RdS.at_ hr_a3 c122 c123
    refine sG rfl rfl (ia rfl rfl Try.underlying23 ti4 c122 c123) rfl ?_
    refine sG rfl rfl (ld rfl Try.underlying4 rfl (HF57.cells ((sub_a (sub_a hX_a3))) (q31 0 _ rfl))) rfl ?_
    refine sG rfl rfl (uNot rfl) rfl ?_
    refine sL (pkF rfl rfl) rfl ?_
    refine lE ?_
    refine kN (?_)
    have HF59 := HF57.sublist (sl_a (sl_da sR))
    exact ofEnv (fun a hE => ⟨_, (Option.some.inj H).symm, ⟨hE.keep (Keep.cons rfl (Keep.cons rfl (Keep.cons rfl (Keep.cons rfl (Keep.cons rfl (Keep.cons rfl (Keep.cons rfl (Keep.cons rfl (Keep.cons rfl (Keep.cons rfl (Keep.cons rfl (Keep.cons rfl (Keep.nil))))))))))))), HF59⟩⟩)
   rintro s8 a w33 rfl ⟨hE, HF60⟩
   replace H := Ho8
   refine go_k hE ?_
   refine kN (?_)
   refine hK47 _ _ ?_
   by_cases c124 : s8 = true
   ·replace H := itT c124 H
    refine cSet (i := 101) rfl (vT c124) ?_
    refine cT rfl ?_
    refine cRgn [] trivial ?_
    refine sL (mv rfl) rfl ?_
    refine sL (mv rfl) rfl ?_
    refine sL (mv rfl) rfl ?_
    refine sL (mv rfl) rfl ?_
    replace H := chk H; obtain ⟨c125, H⟩ := H
    replace H := chk H; obtain ⟨c126, H⟩ := H
    obtain ⟨e38, hk6, q32⟩ := RdS.at' ho30.rd c125 c126
    obtain ⟨A39, c127, A40, c128, A41, c129, rfl, hr16, hr17, hr18⟩ := rd_T_api_Lsa hk6
    refine sL (ia rfl rfl Try.underlying24 ti44 c125 c126) rfl ?_
    refine sL (fa44_2 rfl) rfl ?_
    obtain ⟨L36, L37, A42, c130, HF61, hc6, ho31, hl6⟩ := OwnS.focF (i := (Int.tmod (IntKind.i64.wrap (rd a1 (IntKind.i64.wrap (s6.2.1 + 1)))) (IntKind.i64.wrap (1 + (Int.tmod (IntKind.i64.wrap a0) 6))))) slf44_8 HF60 ho30 c125 c126
    refine sL (ld rfl Try.underlying42 rfl (HF61.cells (sub_a sub_h) hc6)) rfl ?_
    refine sL (mv rfl) rfl ?_
    refine sL (bAdd rfl rfl) rfl ?_
    refine sL (mv rfl) rfl ?_
    refine sL (bAdd rfl rfl) rfl ?_
    refine sL (mv rfl) rfl ?_
    refine sL (mv rfl) rfl ?_
    refine sL (bRem rfl rfl (by decide)) rfl ?_
    refine sL (bAdd rfl rfl) rfl ?_
    refine sL (bd (r := [.int .i64 1, .int .i64 (IntKind.i64.wrap ((Int.tmod (IntKind.i64.wrap (rd a1 s6.2.1)) (IntKind.i64.wrap (1 + (Int.tmod (IntKind.i64.wrap a0) 6)))) + 1)), .int .i64 (IntKind.i64.wrap (2000 + s6.2.1)), .int .i64 (IntKind.i64.wrap ((IntKind.i64.wrap (1 + (Int.tmod (IntKind.i64.wrap (rd a1 (IntKind.i64.wrap (s6.2.1 + 2)))) 5))) + (Int.tmod s6.2.1 3)))]) pl56 ti56 rfl rfl) rfl ?_
    refine eW (oLit (r := [.int .i64 1, .int .i64 (IntKind.i64.wrap ((Int.tmod (IntKind.i64.wrap (rd a1 s6.2.1)) (IntKind.i64.wrap (1 + (Int.tmod (IntKind.i64.wrap a0) 6)))) + 1)), .int .i64 (IntKind.i64.wrap (2000 + s6.2.1)), .int .i64 (IntKind.i64.wrap ((IntKind.i64.wrap (1 + (Int.tmod (IntKind.i64.wrap (rd a1 (IntKind.i64.wrap (s6.2.1 + 2)))) 5))) + (Int.tmod s6.2.1 3)))]) k_T_api_Link [(⟨1, IntKind.i64.wrap ((Int.tmod (IntKind.i64.wrap (rd a1 s6.2.1)) (IntKind.i64.wrap (1 + (Int.tmod (IntKind.i64.wrap a0) 6)))) + 1), IntKind.i64.wrap (2000 + s6.2.1), IntKind.i64.wrap ((IntKind.i64.wrap (1 + (Int.tmod (IntKind.i64.wrap (rd a1 (IntKind.i64.wrap (s6.2.1 + 2)))) 5))) + (Int.tmod s6.2.1 3))⟩ : T_api_Link)] HF61 Try.underlying42 ti56 rfl rfl rfl rfl ⟨[], [], [.int .i64 1, .int .i64 (IntKind.i64.wrap ((Int.tmod (IntKind.i64.wrap (rd a1 s6.2.1)) (IntKind.i64.wrap (1 + (Int.tmod (IntKind.i64.wrap a0) 6)))) + 1)), .int .i64 (IntKind.i64.wrap (2000 + s6.2.1)), .int .i64 (IntKind.i64.wrap ((IntKind.i64.wrap (1 + (Int.tmod (IntKind.i64.wrap (rd a1 (IntKind.i64.wrap (s6.2.1 + 2)))) 5))) + (Int.tmod s6.2.1 3)))], _, rfl, rfl, ⟨rfl, rfl⟩, ⟨rfl, rfl⟩⟩ rfl rfl) rfl ?_
    rintro _ w34 ⟨L38, A43, c131, rfl, HF62, ho32⟩
    replace H := chk H; obtain ⟨c132, H⟩ := H
    have HF63 := HF62.perm (perm_f pR)
    refine eW (oApp (xs := (rd (setI s6.2.2 (Int.tmod (IntKind.i64.wrap (rd a1 s6.2.1)) (IntKind.i64.wrap (1 + (Int.tmod (IntKind.i64.wrap a0) 6)))) (⟨(rd s6.2.2 (Int.tmod (IntKind.i64.wrap (rd a1 s6.2.1)) (IntKind.i64.wrap (1 + (Int.tmod (IntKind.i64.wrap a0) 6))))).f_Head, (rd s6.2.2 (Int.tmod (IntKind.i64.wrap (rd a1 s6.2.1)) (IntKind.i64.wrap (1 + (Int.tmod (IntKind.i64.wrap a0) 6))))).f_Flags, ((rd s6.2.2 (Int.tmod (IntKind.i64.wrap (rd a1 s6.2.1)) (IntKind.i64.wrap (1 + (Int.tmod (IntKind.i64.wrap a0) 6))))).f_Links ++ [(⟨1, IntKind.i64.wrap ((Int.tmod (IntKind.i64.wrap (rd a1 (IntKind.i64.wrap (s6.2.1 + 1)))) (IntKind.i64.wrap (1 + (Int.tmod (IntKind.i64.wrap a0) 6)))) + 1), IntKind.i64.wrap (1000 + s6.2.1), IntKind.i64.wrap (1 + (Int.tmod (IntKind.i64.wrap (rd a1 (IntKind.i64.wrap (s6.2.1 + 2)))) 5))⟩ : T_api_Link)]), (rd s6.2.2 (Int.tmod (IntKind.i64.wrap (rd a1 s6.2.1)) (IntKind.i64.wrap (1 + (Int.tmod (IntKind.i64.wrap a0) 6))))).f_Bits, (rd s6.2.2 (Int.tmod (IntKind.i64.wrap (rd a1 s6.2.1)) (IntKind.i64.wrap (1 + (Int.tmod (IntKind.i64.wrap a0) 6))))).f_Routers, (rd s6.2.2 (Int.tmod (IntKind.i64.wrap (rd a1 s6.2.1)) (IntKind.i64.wrap (1 + (Int.tmod (IntKind.i64.wrap a0) 6))))).f_Verts⟩ : T_api_Lsa)) (Int.tmod (IntKind.i64.wrap (rd a1 (IntKind.i64.wrap (s6.2.1 + 1)))) (IntKind.i64.wrap (1 + (Int.tmod (IntKind.i64.wrap a0) 6))))).f_Links) (ys := ([(⟨1, IntKind.i64.wrap ((Int.tmod (IntKind.i64.wrap (rd a1 s6.2.1)) (IntKind.i64.wrap (1 + (Int.tmod (IntKind.i64.wrap a0) 6)))) + 1), IntKind.i64.wrap (2000 + s6.2.1), IntKind.i64.wrap ((IntKind.i64.wrap (1 + (Int.tmod (IntKind.i64.wrap (rd a1 (IntKind.i64.wrap (s6.2.1 + 2)))) 5))) + (Int.tmod s6.2.1 3))⟩ : T_api_Link)])) k_T_api_Link HF63 rfl rfl Try.underlying42 Try.underlying42 ti56 rfl ho31 (srcR shrF ho32.rd HF63 (sub_a sub_h)) c132 rfl) rfl ?_
    rintro _ w35 ⟨L39, A44, c133, rfl, HF64, ho33⟩
    refine sL (ia rfl rfl Try.underlying24 ti44 c125 c126) rfl ?_
    refine sL (fa44_2 rfl) rfl ?_
    have HF65 := HF64.perm (perm_f (perm_f pR))
    have HF66 := HF65.perm (perm_f pR)
    refine eS (oStF HF66 hl6 ho33 rfl rfl ti42) ?_
    rintro w36 ⟨L40, HF67, ho34⟩
    refine lSet (i := 10) (v := .slice (some ⟨g13, o13, none⟩) (setI (setI s6.2.2 (Int.tmod (IntKind.i64.wrap (rd a1 s6.2.1)) (IntKind.i64.wrap (1 + (Int.tmod (IntKind.i64.wrap a0) 6)))) (⟨(rd s6.2.2 (Int.tmod (IntKind.i64.wrap (rd a1 s6.2.1)) (IntKind.i64.wrap (1 + (Int.tmod (IntKind.i64.wrap a0) 6))))).f_Head, (rd s6.2.2 (Int.tmod (IntKind.i64.wrap (rd a1 s6.2.1)) (IntKind.i64.wrap (1 + (Int.tmod (IntKind.i64.wrap a0) 6))))).f_Flags, ((rd s6.2.2 (Int.tmod (IntKind.i64.wrap (rd a1 s6.2.1)) (IntKind.i64.wrap (1 + (Int.tmod (IntKind.i64.wrap a0) 6))))).f_Links ++ [(⟨1, IntKind.i64.wrap ((Int.tmod (IntKind.i64.wrap (rd a1 (IntKind.i64.wrap (s6.2.1 + 1)))) (IntKind.i64.wrap (1 + (Int.tmod (IntKind.i64.wrap a0) 6)))) + 1), IntKind.i64.wrap (1000 + s6.2.1), IntKind.i64.wrap (1 + (Int.tmod (IntKind.i64.wrap (rd a1 (IntKind.i64.wrap (s6.2.1 + 2)))) 5))⟩ : T_api_Link)]), (rd s6.2.2 (Int.tmod (IntKind.i64.wrap (rd a1 s6.2.1)) (IntKind.i64.wrap (1 + (Int.tmod (IntKind.i64.wrap a0) 6))))).f_Bits, (rd s6.2.2 (Int.tmod (IntKind.i64.wrap (rd a1 s6.2.1)) (IntKind.i64.wrap (1 + (Int.tmod (IntKind.i64.wrap a0) 6))))).f_Routers, (rd s6.2.2 (Int.tmod (IntKind.i64.wrap (rd a1 s6.2.1)) (IntKind.i64.wrap (1 + (Int.tmod (IntKind.i64.wrap a0) 6))))).f_Verts⟩ : T_api_Lsa)) (Int.tmod (IntKind.i64.wrap (rd a1 (IntKind.i64.wrap (s6.2.1 + 1)))) (IntKind.i64.wrap (1 + (Int.tmod (IntKind.i64.wrap a0) 6)))) (⟨(rd (setI s6.2.2 (Int.tmod (IntKind.i64.wrap (rd a1 s6.2.1)) (IntKind.i64.wrap (1 + (Int.tmod (IntKind.i64.wrap a0) 6)))) (⟨(rd s6.2.2 (Int.tmod (IntKind.i64.wrap (rd a1 s6.2.1)) (IntKind.i64.wrap (1 + (Int.tmod (IntKind.i64.wrap a0) 6))))).f_Head, (rd s6.2.2 (Int.tmod (IntKind.i64.wrap (rd a1 s6.2.1)) (IntKind.i64.wrap (1 + (Int.tmod (IntKind.i64.wrap a0) 6))))).f_Flags, ((rd s6.2.2 (Int.tmod (IntKind.i64.wrap (rd a1 s6.2.1)) (IntKind.i64.wrap (1 + (Int.tmod (IntKind.i64.wrap a0) 6))))).f_Links ++ [(⟨1, IntKind.i64.wrap ((Int.tmod (IntKind.i64.wrap (rd a1 (IntKind.i64.wrap (s6.2.1 + 1)))) (IntKind.i64.wrap (1 + (Int.tmod (IntKind.i64.wrap a0) 6)))) + 1), IntKind.i64.wrap (1000 + s6.2.1), IntKind.i64.wrap (1 + (Int.tmod (IntKind.i64.wrap (rd a1 (IntKind.i64.wrap (s6.2.1 + 2)))) 5))⟩ : T_api_Link)]), (rd s6.2.2 (Int.tmod (IntKind.i64.wrap (rd a1 s6.2.1)) (IntKind.i64.wrap (1 + (Int.tmod (IntKind.i64.wrap a0) 6))))).f_Bits, (rd s6.2.2 (Int.tmod (IntKind.i64.wrap (rd a1 s6.2.1)) (IntKind.i64.wrap (1 + (Int.tmod (IntKind.i64.wrap a0) 6))))).f_Routers, (rd s6.2.2 (Int.tmod (IntKind.i64.wrap (rd a1 s6.2.1)) (IntKind.i64.wrap (1 + (Int.tmod (IntKind.i64.wrap a0) 6))))).f_Verts⟩ : T_api_Lsa)) (Int.tmod (IntKind.i64.wrap (rd a1 (IntKind.i64.wrap (s6.2.1 + 1)))) (IntKind.i64.wrap (1 + (Int.tmod (IntKind.i64.wrap a0) 6))))).f_Head, (rd (setI s6.2.2 (Int.tmod (IntKind.i64.wrap (rd a1 s6.2.1)) (IntKind.i64.wrap (1 + (Int.tmod (IntKind.i64.wrap a0) 6)))) (⟨(rd s6.2.2 (Int.tmod (IntKind.i64.wrap (rd a1 s6.2.1)) (IntKind.i64.wrap (1 + (Int.tmod (IntKind.i64.wrap a0) 6))))).f_Head, (rd s6.2.2 (Int.tmod (IntKind.i64.wrap (rd a1 s6.2.1)) (IntKind.i64.wrap (1 + (Int.tmod (IntKind.i64.wrap a0) 6))))).f_Flags, ((rd s6.2.2 (Int.tmod (IntKind.i64.wrap (rd a1 s6.2.1)) (IntKind.i64.wrap (1 + (Int.tmod (IntKind.i64.wrap a0) 6))))).f_Links ++ [(⟨1, IntKind.i64.wrap ((Int.tmod (IntKind.i64.wrap (rd a1 (IntKind.i64.wrap (s6.2.1 + 1)))) (IntKind.i64.wrap (1 + (Int.tmod (IntKind.i64.wrap a0) 6)))) + 1), IntKind.i64.wrap (1000 + s6.2.1), IntKind.i64.wrap (1 + (Int.tmod (IntKind.i64.wrap (rd a1 (IntKind.i64.wrap (s6.2.1 + 2)))) 5))⟩ : T_api_Link)]), (rd s6.2.2 (Int.tmod (IntKind.i64.wrap (rd a1 s6.2.1)) (IntKind.i64.wrap (1 + (Int.tmod (IntKind.i64.wrap a0) 6))))).f_Bits, (rd s6.2.2 (Int.tmod (IntKind.i64.wrap (rd a1 s6.2.1)) (IntKind.i64.wrap (1 + (Int.tmod (IntKind.i64.wrap a0) 6))))).f_Routers, (rd s6.2.2 (Int.tmod (IntKind.i64.wrap (rd a1 s6.2.1)) (IntKind.i64.wrap (1 + (Int.tmod (IntKind.i64.wrap a0) 6))))).f_Verts⟩ : T_api_Lsa)) (Int.tmod (IntKind.i64.wrap (rd a1 (IntKind.i64.wrap (s6.2.1 + 1)))) (IntKind.i64.wrap (1 + (Int.tmod (IntKind.i64.wrap a0) 6))))).f_Flags, ((rd (setI s6.2.2 (Int.tmod (IntKind.i64.wrap (rd a1 s6.2.1)) (IntKind.i64.wrap (1 + (Int.tmod (IntKind.i64.wrap a0) 6)))) (⟨(rd s6.2.2 (Int.tmod (IntKind.i64.wrap (rd a1 s6.2.1)) (IntKind.i64.wrap (1 + (Int.tmod (IntKind.i64.wrap a0) 6))))).f_Head, (rd s6.2.2 (Int.tmod (IntKind.i64.wrap (rd a1 s6.2.1)) (IntKind.i64.wrap (1 + (Int.tmod (IntKind.i64.wrap a0) 6))))).f_Flags, ((rd s6.2.2 (Int.tmod (IntKind.i64.wrap (rd a1 s6.2.1)) (IntKind.i64.wrap (1 + (Int.tmod (IntKind.i64.wrap a0) 6))))).f_Links ++ [(⟨1, IntKind.i64.wrap ((Int.tmod (IntKind.i64.wrap (rd a1 (IntKind.i64.wrap (s6.2.1 + 1)))) (IntKind.i64.wrap (1 + (Int.tmod (IntKind.i64.wrap a0) 6)))) + 1), IntKind.i64.wrap (1000 + s6.2.1), IntKind.i64.wrap (1 + (Int.tmod (IntKind.i64.wrap (rd a1 (IntKind.i64.wrap (s6.2.1 + 2)))) 5))⟩ : T_api_Link)]), (rd s6.2.2 (Int.tmod (IntKind.i64.wrap (rd a1 s6.2.1)) (IntKind.i64.wrap (1 + (Int.tmod (IntKind.i64.wrap a0) 6))))).f_Bits, (rd s6.2.2 (Int.tmod (IntKind.i64.wrap (rd a1 s6.2.1)) (IntKind.i64.wrap (1 + (Int.tmod (IntKind.i64.wrap a0) 6))))).f_Routers, (rd s6.2.2 (Int.tmod (IntKind.i64.wrap (rd a1 s6.2.1)) (IntKind.i64.wrap (1 + (Int.tmod (IntKind.i64.wrap a0) 6))))).f_Verts⟩ : T_api_Lsa)) (Int.tmod (IntKind.i64.wrap (rd a1 (IntKind.i64.wrap (s6.2.1 + 1)))) (IntKind.i64.wrap (1 + (Int.tmod (IntKind.i64.wrap a0) 6))))).f_Links ++ [(⟨1, IntKind.i64.wrap ((Int.tmod (IntKind.i64.wrap (rd a1 s6.2.1)) (IntKind.i64.wrap (1 + (Int.tmod (IntKind.i64.wrap a0) 6)))) + 1), IntKind.i64.wrap (2000 + s6.2.1), IntKind.i64.wrap ((IntKind.i64.wrap (1 + (Int.tmod (IntKind.i64.wrap (rd a1 (IntKind.i64.wrap (s6.2.1 + 2)))) 5))) + (Int.tmod s6.2.1 3))⟩ : T_api_Link)]), (rd (setI s6.2.2 (Int.tmod (IntKind.i64.wrap (rd a1 s6.2.1)) (IntKind.i64.wrap (1 + (Int.tmod (IntKind.i64.wrap a0) 6)))) (⟨(rd s6.2.2 (Int.tmod (IntKind.i64.wrap (rd a1 s6.2.1)) (IntKind.i64.wrap (1 + (Int.tmod (IntKind.i64.wrap a0) 6))))).f_Head, (rd s6.2.2 (Int.tmod (IntKind.i64.wrap (rd a1 s6.2.1)) (IntKind.i64.wrap (1 + (Int.tmod (IntKind.i64.wrap a0) 6))))).f_Flags, ((rd s6.2.2 (Int.tmod (IntKind.i64.wrap (rd a1 s6.2.1)) (IntKind.i64.wrap (1 + (Int.tmod (IntKind.i64.wrap a0) 6))))).f_Links ++ [(⟨1, IntKind.i64.wrap ((Int.tmod (IntKind.i64.wrap (rd a1 (IntKind.i64.wrap (s6.2.1 + 1)))) (IntKind.i64.wrap (1 + (Int.tmod (IntKind.i64.wrap a0) 6)))) + 1), IntKind.i64.wrap (1000 + s6.2.1), IntKind.i64.wrap (1 + (Int.tmod (IntKind.i64.wrap (rd a1 (IntKind.i64.wrap (s6.2.1 + 2)))) 5))⟩ : T_api_Link)]), (rd s6.2.2 (Int.tmod (IntKind.i64.wrap (rd a1 s6.2.1)) (IntKind.i64.wrap (1 + (Int.tmod (IntKind.i64.wrap a0) 6))))).f_Bits, (rd s6.2.2 (Int.tmod (IntKind.i64.wrap (rd a1 s6.2.1)) (IntKind.i64.wrap (1 + (Int.tmod (IntKind.i64.wrap a0) 6))))).f_Routers, (rd s6.2.2 (Int.tmod (IntKind.i64.wrap (rd a1 s6.2.1)) (IntKind.i64.wrap (1 + (Int.tmod (IntKind.i64.wrap a0) 6))))).f_Verts⟩ : T_api_Lsa)) (Int.tmod (IntKind.i64.wrap (rd a1 (IntKind.i64.wrap (s6.2.1 + 1)))) (IntKind.i64.wrap (1 + (Int.tmod (IntKind.i64.wrap a0) 6))))).f_Bits, (rd (setI s6.2.2 (Int.tmod (IntKind.i64.wrap (rd a1 s6.2.1)) (IntKind.i64.wrap (1 + (Int.tmod (IntKind.i64.wrap a0) 6)))) (⟨(rd s6.2.2 (Int.tmod (IntKind.i64.wrap (rd a1 s6.2.1)) (IntKind.i64.wrap (1 + (Int.tmod (IntKind.i64.wrap a0) 6))))).f_Head, (rd s6.2.2 (Int.tmod (IntKind.i64.wrap (rd a1 s6.2.1)) (IntKind.i64.wrap (1 + (Int.tmod (IntKind.i64.wrap a0) 6))))).f_Flags, ((rd s6.2.2 (Int.tmod (IntKind.i64.wrap (rd a1 s6.2.1)) (IntKind.i64.wrap (1 + (Int.tmod (IntKind.i64.wrap a0) 6))))).f_Links ++ [(⟨1, IntKind.i64.wrap ((Int.tmod (IntKind.i64.wrap (rd a1 (IntKind.i64.wrap (s6.2.1 + 1)))) (IntKind.i64.wrap (1 + (Int.tmod (IntKind.i64.wrap a0) 6)))) + 1), IntKind.i64.wrap (1000 + s6.2.1), IntKind.i64.wrap (1 + (Int.tmod (IntKind.i64.wrap (rd a1 (IntKind.i64.wrap (s6.2.1 + 2)))) 5))⟩ : T_api_Link)]), (rd s6.2.2 (Int.tmod (IntKind.i64.wrap (rd a1 s6.2.1)) (IntKind.i64.wrap (1 + (Int.tmod (IntKind.i64.wrap a0) 6))))).f_Bits, (rd s6.2.2 (Int.tmod (IntKind.i64.wrap (rd a1 s6.2.1)) (IntKind.i64.wrap (1 + (Int.tmod (IntKind.i64.wrap a0) 6))))).f_Routers, (rd s6.2.2 (Int.tmod (IntKind.i64.wrap (rd a1 s6.2.1)) (IntKind.i64.wrap (1 + (Int.tmod (IntKind.i64.wrap a0) 6))))).f_Verts⟩ : T_api_Lsa)) (Int.tmod (IntKind.i64.wrap (rd a1 (IntKind.i64.wrap (s6.2.1 + 1)))) (IntKind.i64.wrap (1 + (Int.tmod (IntKind.i64.wrap a0) 6))))).f_Routers, (rd (setI s6.2.2 (Int.tmod (IntKind.i64.wrap (rd a1 s6.2.1)) (IntKind.i64.wrap (1 + (Int.tmod (IntKind.i64.wrap a0) 6)))) (⟨(rd s6.2.2 (Int.tmod (IntKind.i64.wrap (rd a1 s6.2.1)) (IntKind.i64.wrap (1 + (Int.tmod (IntKind.i64.wrap a0) 6))))).f_Head, (rd s6.2.2 (Int.tmod (IntKind.i64.wrap (rd a1 s6.2.1)) (IntKind.i64.wrap (1 + (Int.tmod (IntKind.i64.wrap a0) 6))))).f_Flags, ((rd s6.2.2 (Int.tmod (IntKind.i64.wrap (rd a1 s6.2.1)) (IntKind.i64.wrap (1 + (Int.tmod (IntKind.i64.wrap a0) 6))))).f_Links ++ [(⟨1, IntKind.i64.wrap ((Int.tmod (IntKind.i64.wrap (rd a1 (IntKind.i64.wrap (s6.2.1 + 1)))) (IntKind.i64.wrap (1 + (Int.tmod (IntKind.i64.wrap a0) 6)))) + 1), IntKind.i64.wrap (1000 + s6.2.1), IntKind.i64.wrap (1 + (Int.tmod (IntKind.i64.wrap (rd a1 (IntKind.i64.wrap (s6.2.1 + 2)))) 5))⟩ : T_api_Link)]), (rd s6.2.2 (Int.tmod (IntKind.i64.wrap (rd a1 s6.2.1)) (IntKind.i64.wrap (1 + (Int.tmod (IntKind.i64.wrap a0) 6))))).f_Bits, (rd s6.2.2 (Int.tmod (IntKind.i64.wrap (rd a1 s6.2.1)) (IntKind.i64.wrap (1 + (Int.tmod (IntKind.i64.wrap a0) 6))))).f_Routers, (rd s6.2.2 (Int.tmod (IntKind.i64.wrap (rd a1 s6.2.1)) (IntKind.i64.wrap (1 + (Int.tmod (IntKind.i64.wrap a0) 6))))).f_Verts⟩ : T_api_Lsa)) (Int.tmod (IntKind.i64.wrap (rd a1 (IntKind.i64.wrap (s6.2.1 + 1)))) (IntKind.i64.wrap (1 + (Int.tmod (IntKind.i64.wrap a0) 6))))).f_Verts⟩ : T_api_Lsa)).length c10) rfl (by simp only [len_setI]) ?_
    refine lSet (i := 102) (v := .slice (some ⟨g13, o13, none⟩) (setI (setI s6.2.2 (Int.tmod (IntKind.i64.wrap (rd a1 s6.2.1)) (IntKind.i64.wrap (1 + (Int.tmod (IntKind.i64.wrap a0) 6)))) (⟨(rd s6.2.2 (Int.tmod (IntKind.i64.wrap (rd a1 s6.2.1)) (IntKind.i64.wrap (1 + (Int.tmod (IntKind.i64.wrap a0) 6))))).f_Head, (rd s6.2.2 (Int.tmod (IntKind.i64.wrap (rd a1 s6.2.1)) (IntKind.i64.wrap (1 + (Int.tmod (IntKind.i64.wrap a0) 6))))).f_Flags, ((rd s6.2.2 (Int.tmod (IntKind.i64.wrap (rd a1 s6.2.1)) (IntKind.i64.wrap (1 + (Int.tmod (IntKind.i64.wrap a0) 6))))).f_Links ++ [(⟨1, IntKind.i64.wrap ((Int.tmod (IntKind.i64.wrap (rd a1 (IntKind.i64.wrap (s6.2.1 + 1)))) (IntKind.i64.wrap (1 + (Int.tmod (IntKind.i64.wrap a0) 6)))) + 1), IntKind.i64.wrap (1000 + s6.2.1), IntKind.i64.wrap (1 + (Int.tmod (IntKind.i64.wrap (rd a1 (IntKind.i64.wrap (s6.2.1 + 2)))) 5))⟩ : T_api_Link)]), (rd s6.2.2 (Int.tmod (IntKind.i64.wrap (rd a1 s6.2.1)) (IntKind.i64.wrap (1 + (Int.tmod (IntKind.i64.wrap a0) 6))))).f_Bits, (rd s6.2.2 (Int.tmod (IntKind.i64.wrap (rd a1 s6.2.1)) (IntKind.i64.wrap (1 + (Int.tmod (IntKind.i64.wrap a0) 6))))).f_Routers, (rd s6.2.2 (Int.tmod (IntKind.i64.wrap (rd a1 s6.2.1)) (IntKind.i64.wrap (1 + (Int.tmod (IntKind.i64.wrap a0) 6))))).f_Verts⟩ : T_api_Lsa)) (Int.tmod (IntKind.i64.wrap (rd a1 (IntKind.i64.wrap (s6.2.1 + 1)))) (IntKind.i64.wrap (1 + (Int.tmod (IntKind.i64.wrap a0) 6)))) (⟨(rd (setI s6.2.2 (Int.tmod (IntKind.i64.wrap (rd a1 s6.2.1)) (IntKind.i64.wrap (1 + (Int.tmod (IntKind.i64.wrap a0) 6)))) (⟨(rd s6.2.2 (Int.tmod (IntKind.i64.wrap (rd a1 s6.2.1)) (IntKind.i64.wrap (1 + (Int.tmod (IntKind.i64.wrap a0) 6))))).f_Head, (rd s6.2.2 (Int.tmod (IntKind.i64.wrap (rd a1 s6.2.1)) (IntKind.i64.wrap (1 + (Int.tmod (IntKind.i64.wrap a0) 6))))).f_Flags, ((rd s6.2.2 (Int.tmod (IntKind.i64.wrap (rd a1 s6.2.1)) (IntKind.i64.wrap (1 + (Int.tmod (IntKind.i64.wrap a0) 6))))).f_Links ++ [(⟨1, IntKind.i64.wrap ((Int.tmod (IntKind.i64.wrap (rd a1 (IntKind.i64.wrap (s6.2.1 + 1)))) (IntKind.i64.wrap (1 + (Int.tmod (IntKind.i64.wrap a0) 6)))) + 1), IntKind.i64.wrap (1000 + s6.2.1), IntKind.i64.wrap (1 + (Int.tmod (IntKind.i64.wrap (rd a1 (IntKind.i64.wrap (s6.2.1 + 2)))) 5))⟩ : T_api_Link)]), (rd s6.2.2 (Int.tmod (IntKind.i64.wrap (rd a1 s6.2.1)) (IntKind.i64.wrap (1 + (Int.tmod (IntKind.i64.wrap a0) 6))))).f_Bits, (rd s6.2.2 (Int.tmod (IntKind.i64.wrap (rd a1 s6.2.1)) (IntKind.i64.wrap (1 + (Int.tmod (IntKind.i64.wrap a0) 6))))).f_Routers, (rd s6.2.2 (Int.tmod (IntKind.i64.wrap (rd a1 s6.2.1)) (IntKind.i64.wrap (1 + (Int.tmod (IntKind.i64.wrap a0) 6))))).f_Verts⟩ : T_api_Lsa)) (Int.tmod (IntKind.i64.wrap (rd a1 (IntKind.i64.wrap (s6.2.1 + 1)))) (IntKind.i64.wrap (1 + (Int.tmod (IntKind.i64.wrap a0) 6))))).f_Head, (rd (setI s6.2.2 (Int.tmod (IntKind.i64.wrap (rd a1 s6.2.1)) (IntKind.i64.wrap (1 + (Int.tmod (IntKind.i64.wrap a0) 6)))) (⟨(rd s6.2.2 (Int.tmod (IntKind.i64.wrap (rd a1 s6.2.1)) (IntKind.i64.wrap (1 + (Int.tmod (IntKind.i64.wrap a0) 6))))).f_Head, (rd s6.2.2 (Int.tmod (IntKind.i64.wrap (rd a1 s6.2.1)) (IntKind.i64.wrap (1 + (Int.tmod (IntKind.i64.wrap a0) 6))))).f_Flags, ((rd s6.2.2 (Int.tmod (IntKind.i64.wrap (rd a1 s6.2.1)) (IntKind.i64.wrap (1 + (Int.tmod (IntKind.i64.wrap a0) 6))))).f_Links ++ [(⟨1, IntKind.i64.wrap ((Int.tmod (IntKind.i64.wrap (rd a1 (IntKind.i64.wrap (s6.2.1 + 1)))) (IntKind.i64.wrap (1 + (Int.tmod (IntKind.i64.wrap a0) 6)))) + 1), IntKind.i64.wrap (1000 + s6.2.1), IntKind.i64.wrap (1 + (Int.tmod (IntKind.i64.wrap (rd a1 (IntKind.i64.wrap (s6.2.1 + 2)))) 5))⟩ : T_api_Link)]), (rd s6.2.2 (Int.tmod (IntKind.i64.wrap (rd a1 s6.2.1)) (IntKind.i64.wrap (1 + (Int.tmod (IntKind.i64.wrap a0) 6))))).f_Bits, (rd s6.2.2 (Int.tmod (IntKind.i64.wrap (rd a1 s6.2.1)) (IntKind.i64.wrap (1 + (Int.tmod (IntKind.i64.wrap a0) 6))))).f_Routers, (rd s6.2.2 (Int.tmod (IntKind.i64.wrap (rd a1 s6.2.1)) (IntKind.i64.wrap (1 + (Int.tmod (IntKind.i64.wrap a0) 6))))).f_Verts⟩ : T_api_Lsa)) (Int.tmod (IntKind.i64.wrap (rd a1 (IntKind.i64.wrap (s6.2.1 + 1)))) (IntKind.i64.wrap (1 + (Int.tmod (IntKind.i64.wrap a0) 6))))).f_Flags, ((rd (setI s6.2.2 (Int.tmod (IntKind.i64.wrap (rd a1 s6.2.1)) (IntKind.i64.wrap (1 + (Int.tmod (IntKind.i64.wrap a0) 6)))) (⟨(rd s6.2.2 (Int.tmod (IntKind.i64.wrap (rd a1 s6.2.1)) (IntKind.i64.wrap (1 + (Int.tmod (IntKind.i64.wrap a0) 6))))).f_Head, (rd s6.2.2 (Int.tmod (IntKind.i64.wrap (rd a1 s6.2.1)) (IntKind.i64.wrap (1 + (Int.tmod (IntKind.i64.wrap a0) 6))))).f_Flags, ((rd s6.2.2 (Int.tmod (IntKind.i64.wrap (rd a1 s6.2.1)) (IntKind.i64.wrap (1 + (Int.tmod (IntKind.i64.wrap a0) 6))))).f_Links ++ [(⟨1, IntKind.i64.wrap ((Int.tmod (IntKind.i64.wrap (rd a1 (IntKind.i64.wrap (s6.2.1 + 1)))) (IntKind.i64.wrap (1 + (Int.tmod (IntKind.i64.wrap a0) 6)))) + 1), IntKind.i64.wrap (1000 + s6.2.1), IntKind.i64.wrap (1 + (Int.tmod (IntKind.i64.wrap (rd a1 (IntKind.i64.wrap (s6.2.1 + 2)))) 5))⟩ : T_api_Link)]), (rd s6.2.2 (Int.tmod (IntKind.i64.wrap (rd a1 s6.2.1)) (IntKind.i64.wrap (1 + (Int.tmod (IntKind.i64.wrap a0) 6))))).f_Bits, (rd s6.2.2 (Int.tmod (IntKind.i64.wrap (rd a1 s6.2.1)) (IntKind.i64.wrap (1 + (Int.tmod (IntKind.i64.wrap a0) 6))))).f_Routers, (rd s6.2.2 (Int.tmod (IntKind.i64.wrap (rd a1 s6.2.1)) (IntKind.i64.wrap (1 + (Int.tmod (IntKind.i64.wrap a0) 6))))).f_Verts⟩ : T_api_Lsa)) (Int.tmod (IntKind.i64.wrap (rd a1 (IntKind.i64.wrap (s6.2.1 + 1)))) (IntKind.i64.wrap (1 + (Int.tmod (IntKind.i64.wrap a0) 6))))).f_Links ++ [(⟨1, IntKind.i64.wrap ((Int.tmod (IntKind.i64.wrap (rd a1 s6.2.1)) (IntKind.i64.wrap (1 + (Int.tmod (IntKind.i64.wrap a0) 6)))) + 1), IntKind.i64.wrap (2000 + s6.2.1), IntKind.i64.wrap ((IntKind.i64.wrap (1 + (Int.tmod (IntKind.i64.wrap (rd a1 (IntKind.i64.wrap (s6.2.1 + 2)))) 5))) + (Int.tmod s6.2.1 3))⟩ : T_api_Link)]), (rd (setI s6.2.2 (Int.tmod (IntKind.i64.wrap (rd a1 s6.2.1)) (IntKind.i64.wrap (1 + (Int.tmod (IntKind.i64.wrap a0) 6)))) (⟨(rd s6.2.2 (Int.tmod (IntKind.i64.wrap (rd a1 s6.2.1)) (IntKind.i64.wrap (1 + (Int.tmod (IntKind.i64.wrap a0) 6))))).f_Head, (rd s6.2.2 (Int.tmod (IntKind.i64.wrap (rd a1 s6.2.1)) (IntKind.i64.wrap (1 + (Int.tmod (IntKind.i64.wrap a0) 6))))).f_Flags, ((rd s6.2.2 (Int.tmod (IntKind.i64.wrap (rd a1 s6.2.1)) (IntKind.i64.wrap (1 + (Int.tmod (IntKind.i64.wrap a0) 6))))).f_Links ++ [(⟨1, IntKind.i64.wrap ((Int.tmod (IntKind.i64.wrap (rd a1 (IntKind.i64.wrap (s6.2.1 + 1)))) (IntKind.i64.wrap (1 + (Int.tmod (IntKind.i64.wrap a0) 6)))) + 1), IntKind.i64.wrap (1000 + s6.2.1), IntKind.i64.wrap (1 + (Int.tmod (IntKind.i64.wrap (rd a1 (IntKind.i64.wrap (s6.2.1 + 2)))) 5))⟩ : T_api_Link)]), (rd s6.2.2 (Int.tmod (IntKind.i64.wrap (rd a1 s6.2.1)) (IntKind.i64.wrap (1 + (Int.tmod (IntKind.i64.wrap a0) 6))))).f_Bits, (rd s6.2.2 (Int.tmod (IntKind.i64.wrap (rd a1 s6.2.1)) (IntKind.i64.wrap (1 + (Int.tmod (IntKind.i64.wrap a0) 6))))).f_Routers, (rd s6.2.2 (Int.tmod (IntKind.i64.wrap (rd a1 s6.2.1)) (IntKind.i64.wrap (1 + (Int.tmod (IntKind.i64.wrap a0) 6))))).f_Verts⟩ : T_api_Lsa)) (Int.tmod (IntKind.i64.wrap (rd a1 (IntKind.i64.wrap (s6.2.1 + 1)))) (IntKind.i64.wrap (1 + (Int.tmod (IntKind.i64.wrap a0) 6))))).f_Bits, (rd (setI s6.2.2 (Int.tmod (IntKind.i64.wrap (rd a1 s6.2.1)) (IntKind.i64.wrap (1 + (Int.tmod (IntKind.i64.wrap a0) 6)))) (⟨(rd s6.2.2 (Int.tmod (IntKind.i64.wrap (rd a1 s6.2.1)) (IntKind.i64.wrap (1 + (Int.tmod (IntKind.i64.wrap a0) 6))))).f_Head, (rd s6.2.2 (Int.tmod (IntKind.i64.wrap (rd a1 s6.2.1)) (IntKind.i64.wrap (1 + (Int.tmod (IntKind.i64.wrap a0) 6))))).f_Flags, ((rd s6.2.2 (Int.tmod (IntKind.i64.wrap (rd a1 s6.2.1)) (IntKind.i64.wrap (1 + (Int.tmod (IntKind.i64.wrap a0) 6))))).f_Links ++ [(⟨1, IntKind.i64.wrap ((Int.tmod (IntKind.i64.wrap (rd a1 (IntKind.i64.wrap (s6.2.1 + 1)))) (IntKind.i64.wrap (1 + (Int.tmod (IntKind.i64.wrap a0) 6)))) + 1), IntKind.i64.wrap (1000 + s6.2.1), IntKind.i64.wrap (1 + (Int.tmod (IntKind.i64.wrap (rd a1 (IntKind.i64.wrap (s6.2.1 + 2)))) 5))⟩ : T_api_Link)]), (rd s6.2.2 (Int.tmod (IntKind.i64.wrap (rd a1 s6.2.1)) (IntKind.i64.wrap (1 + (Int.tmod (IntKind.i64.wrap a0) 6))))).f_Bits, (rd s6.2.2 (Int.tmod (IntKind.i64.wrap (rd a1 s6.2.1)) (IntKind.i64.wrap (1 + (Int.tmod (IntKind.i64.wrap a0) 6))))).f_Routers, (rd s6.2.2 (Int.tmod (IntKind.i64.wrap (rd a1 s6.2.1)) (IntKind.i64.wrap (1 + (Int.tmod (IntKind.i64.wrap a0) 6))))).f_Verts⟩ : T_api_Lsa)) (Int.tmod (IntKind.i64.wrap (rd a1 (IntKind.i64.wrap (s6.2.1 + 1)))) (IntKind.i64.wrap (1 + (Int.tmod (IntKind.i64.wrap a0) 6))))).f_Routers, (rd (setI s6.2.2 (Int.tmod (IntKind.i64.wrap (rd a1 s6.2.1)) (IntKind.i64.wrap (1 + (Int.tmod (IntKind.i64.wrap a0) 6)))) (⟨(rd s6.2.2 (Int.tmod (IntKind.i64.wrap (rd a1 s6.2.1)) (IntKind.i64.wrap (1 + (Int.tmod (IntKind.i64.wrap a0) 6))))).f_Head, (rd s6.2.2 (Int.tmod (IntKind.i64.wrap (rd a1 s6.2.1)) (IntKind.i64.wrap (1 + (Int.tmod (IntKind.i64.wrap a0) 6))))).f_Flags, ((rd s6.2.2 (Int.tmod (IntKind.i64.wrap (rd a1 s6.2.1)) (IntKind.i64.wrap (1 + (Int.tmod (IntKind.i64.wrap a0) 6))))).f_Links ++ [(⟨1, IntKind.i64.wrap ((Int.tmod (IntKind.i64.wrap (rd a1 (IntKind.i64.wrap (s6.2.1 + 1)))) (IntKind.i64.wrap (1 + (Int.tmod (IntKind.i64.wrap a0) 6)))) + 1), IntKind.i64.wrap (1000 + s6.2.1), IntKind.i64.wrap (1 + (Int.tmod (IntKind.i64.wrap (rd a1 (IntKind.i64.wrap (s6.2.1 + 2)))) 5))⟩ : T_api_Link)]), (rd s6.2.2 (Int.tmod (IntKind.i64.wrap (rd a1 s6.2.1)) (IntKind.i64.wrap (1 + (Int.tmod (IntKind.i64.wrap a0) 6))))).f_Bits, (rd s6.2.2 (Int.tmod (IntKind.i64.wrap (rd a1 s6.2.1)) (IntKind.i64.wrap (1 + (Int.tmod (IntKind.i64.wrap a0) 6))))).f_Routers, (rd s6.2.2 (Int.tmod (IntKind.i64.wrap (rd a1 s6.2.1)) (IntKind.i64.wrap (1 + (Int.tmod (IntKind.i64.wrap a0) 6))))).f_Verts⟩ : T_api_Lsa)) (Int.tmod (IntKind.i64.wrap (rd a1 (IntKind.i64.wrap (s6.2.1 + 1)))) (IntKind.i64.wrap (1 + (Int.tmod (IntKind.i64.wrap a0) 6))))).f_Verts⟩ : T_api_Lsa)).length c10) rfl (by simp only [len_setI]) ?_
    refine lSet (i := 104) (v := .slice (some ⟨g13, o13, none⟩) (setI (setI s6.2.2 (Int.tmod (IntKind.i64.wrap (rd a1 s6.2.1)) (IntKind.i64.wrap (1 + (Int.tmod (IntKind.i64.wrap a0) 6)))) (⟨(rd s6.2.2 (Int.tmod (IntKind.i64.wrap (rd a1 s6.2.1)) (IntKind.i64.wrap (1 + (Int.tmod (IntKind.i64.wrap a0) 6))))).f_Head, (rd s6.2.2 (Int.tmod (IntKind.i64.wrap (rd a1 s6.2.1)) (IntKind.i64.wrap (1 + (Int.tmod (IntKind.i64.wrap a0) 6))))).f_Flags, ((rd s6.2.2 (Int.tmod (IntKind.i64.wrap (rd a1 s6.2.1)) (IntKind.i64.wrap (1 + (Int.tmod (IntKind.i64.wrap a0) 6))))).f_Links ++ [(⟨1, IntKind.i64.wrap ((Int.tmod (IntKind.i64.wrap (rd a1 (IntKind.i64.wrap (s6.2.1 + 1)))) (IntKind.i64.wrap (1 + (Int.tmod (IntKind.i64.wrap a0) 6)))) + 1), IntKind.i64.wrap (1000 + s6.2.1), IntKind.i64.wrap (1 + (Int.tmod (IntKind.i64.wrap (rd a1 (IntKind.i64.wrap (s6.2.1 + 2)))) 5))⟩ : T_api_Link)]), (rd s6.2.2 (Int.tmod (IntKind.i64.wrap (rd a1 s6.2.1)) (IntKind.i64.wrap (1 + (Int.tmod (IntKind.i64.wrap a0) 6))))).f_Bits, (rd s6.2.2 (Int.tmod (IntKind.i64.wrap (rd a1 s6.2.1)) (IntKind.i64.wrap (1 + (Int.tmod (IntKind.i64.wrap a0) 6))))).f_Routers, (rd s6.2.2 (Int.tmod (IntKind.i64.wrap (rd a1 s6.2.1)) (IntKind.i64.wrap (1 + (Int.tmod (IntKind.i64.wrap a0) 6))))).f_Verts⟩ : T_api_Lsa)) (Int.tmod (IntKind.i64.wrap (rd a1 (IntKind.i64.wrap (s6.2.1 + 1)))) (IntKind.i64.wrap (1 + (Int.tmod (IntKind.i64.wrap a0) 6)))) (⟨(rd (setI s6.2.2 (Int.tmod (IntKind.i64.wrap (rd a1 s6.2.1)) (IntKind.i64.wrap (1 + (Int.tmod (IntKind.i64.wrap a0) 6)))) (⟨(rd s6.2.2 (Int.tmod (IntKind.i64.wrap (rd a1 s6.2.1)) (IntKind.i64.wrap (1 + (Int.tmod (IntKind.i64.wrap a0) 6))))).f_Head, (rd s6.2.2 (Int.tmod (IntKind.i64.wrap (rd a1 s6.2.1)) (IntKind.i64.wrap (1 + (Int.tmod (IntKind.i64.wrap a0) 6))))).f_Flags, ((rd s6.2.2 (Int.tmod (IntKind.i64.wrap (rd a1 s6.2.1)) (IntKind.i64.wrap (1 + (Int.tmod (IntKind.i64.wrap a0) 6))))).f_Links ++ [(⟨1, IntKind.i64.wrap ((Int.tmod (IntKind.i64.wrap (rd a1 (IntKind.i64.wrap (s6.2.1 + 1)))) (IntKind.i64.wrap (1 + (Int.tmod (IntKind.i64.wrap a0) 6)))) + 1), IntKind.i64.wrap (1000 + s6.2.1), IntKind.i64.wrap (1 + (Int.tmod (IntKind.i64.wrap (rd a1 (IntKind.i64.wrap (s6.2.1 + 2)))) 5))⟩ : T_api_Link)]), (rd s6.2.2 (Int.tmod (IntKind.i64.wrap (rd a1 s6.2.1)) (IntKind.i64.wrap (1 + (Int.tmod (IntKind.i64.wrap a0) 6))))).f_Bits, (rd s6.2.2 (Int.tmod (IntKind.i64.wrap (rd a1 s6.2.1)) (IntKind.i64.wrap (1 + (Int.tmod (IntKind.i64.wrap a0) 6))))).f_Routers, (rd s6.2.2 (Int.tmod (IntKind.i64.wrap (rd a1 s6.2.1)) (IntKind.i64.wrap (1 + (Int.tmod (IntKind.i64.wrap a0) 6))))).f_Verts⟩ : T_api_Lsa)) (Int.tmod (IntKind.i64.wrap (rd a1 (IntKind.i64.wrap (s6.2.1 + 1)))) (IntKind.i64.wrap (1 + (Int.tmod (IntKind.i64.wrap a0) 6))))).f_Head, (rd (setI s6.2.2 (Int.tmod (IntKind.i64.wrap (rd a1 s6.2.1)) (IntKind.i64.wrap (1 + (Int.tmod (IntKind.i64.wrap a0) 6)))) (⟨(rd s6.2.2 (Int.tmod (IntKind.i64.wrap (rd a1 s6.2.1)) (IntKind.i64.wrap (1 + (Int.tmod (IntKind.i64.wrap a0) 6))))).f_Head, (rd s6.2.2 (Int.tmod (IntKind.i64.wrap (rd a1 s6.2.1)) (IntKind.i64.wrap (1 + (Int.tmod (IntKind.i64.wrap a0) 6))))).f_Flags, ((rd s6.2.2 (Int.tmod (IntKind.i64.wrap (rd a1 s6.2.1)) (IntKind.i64.wrap (1 + (Int.tmod (IntKind.i64.wrap a0) 6))))).f_Links ++ [(⟨1, IntKind.i64.wrap ((Int.tmod (IntKind.i64.wrap (rd a1 (IntKind.i64.wrap (s6.2.1 + 1)))) (IntKind.i64.wrap (1 + (Int.tmod (IntKind.i64.wrap a0) 6)))) + 1), IntKind.i64.wrap (1000 + s6.2.1), IntKind.i64.wrap (1 + (Int.tmod (IntKind.i64.wrap (rd a1 (IntKind.i64.wrap (s6.2.1 + 2)))) 5))⟩ : T_api_Link)]), (rd s6.2.2 (Int.tmod (IntKind.i64.wrap (rd a1 s6.2.1)) (IntKind.i64.wrap (1 + (Int.tmod (IntKind.i64.wrap a0) 6))))).f_Bits, (rd s6.2.2 (Int.tmod (IntKind.i64.wrap (rd a1 s6.2.1)) (IntKind.i64.wrap (1 + (Int.tmod (IntKind.i64.wrap a0) 6))))).f_Routers, (rd s6.2.2 (Int.tmod (IntKind.i64.wrap (rd a1 s6.2.1)) (IntKind.i64.wrap (1 + (Int.tmod (IntKind.i64.wrap a0) 6))))).f_Verts⟩ : T_api_Lsa)) (Int.tmod (IntKind.i64.wrap (rd a1 (IntKind.i64.wrap (s6.2.1 + 1)))) (IntKind.i64.wrap (1 + (Int.tmod (IntKind.i64.wrap a0) 6))))).f_Flags, ((rd (setI s6.2.2 (Int.tmod (IntKind.i64.wrap (rd a1 s6.2.1)) (IntKind.i64.wrap (1 + (Int.tmod (IntKind.i64.wrap a0) 6)))) (⟨(rd s6.2.2 (Int.tmod (IntKind.i64.wrap (rd a1 s6.2.1)) (IntKind.i64.wrap (1 + (Int.tmod (IntKind.i64.wrap a0) 6))))).f_Head, (rd s6.2.2 (Int.tmod (IntKind.i64.wrap (rd a1 s6.2.1)) (IntKind.i64.wrap (1 + (Int.tmod (IntKind.i64.wrap a0) 6))))).f_Flags, ((rd s6.2.2 (Int.tmod (IntKind.i64.wrap (rd a1 s6.2.1)) (IntKind.i64.wrap (1 + (Int.tmod (IntKind.i64.wrap a0) 6))))).f_Links ++ [(⟨1, IntKind.i64.wrap ((Int.tmod (IntKind.i64.wrap (rd a1 (IntKind.i64.wrap (s6.2.1 + 1)))) (IntKind.i64.wrap (1 + (Int.tmod (IntKind.i64.wrap a0) 6)))) + 1), IntKind.i64.wrap (1000 + s6.2.1), IntKind.i64.wrap (1 + (Int.tmod (IntKind.i64.wrap (rd a1 (IntKind.i64.wrap (s6.2.1 + 2)))) 5))⟩ : T_api_Link)]), (rd s6.2.2 (Int.tmod (IntKind.i64.wrap (rd a1 s6.2.1)) (IntKind.i64.wrap (1 + (Int.tmod (IntKind.i64.wrap a0) 6))))).f_Bits, (rd s6.2.2 (Int.tmod (IntKind.i64.wrap (rd a1 s6.2.1)) (IntKind.i64.wrap (1 + (Int.tmod (IntKind.i64.wrap a0) 6))))).f_Routers, (rd s6.2.2 (Int.tmod (IntKind.i64.wrap (rd a1 s6.2.1)) (IntKind.i64.wrap (1 + (Int.tmod (IntKind.i64.wrap a0) 6))))).f_Verts⟩ : T_api_Lsa)) (Int.tmod (IntKind.i64.wrap (rd a1 (IntKind.i64.wrap (s6.2.1 + 1)))) (IntKind.i64.wrap (1 + (Int.tmod (IntKind.i64.wrap a0) 6))))).f_Links ++ [(⟨1, IntKind.i64.wrap ((Int.tmod (IntKind.i64.wrap (rd a1 s6.2.1)) (IntKind.i64.wrap (1 + (Int.tmod (IntKind.i64.wrap a0) 6)))) + 1), IntKind.i64.wrap (2000 + s6.2.1), IntKind.i64.wrap ((IntKind.i64.wrap (1 + (Int.tmod (IntKind.i64.wrap (rd a1 (IntKind.i64.wrap (s6.2.1 + 2)))) 5))) + (Int.tmod s6.2.1 3))⟩ : T_api_Link)]), (rd (setI s6.2.2 (Int.tmod (IntKind.i64.wrap (rd a1 s6.2.1)) (IntKind.i64.wrap (1 + (Int.tmod (IntKind.i64.wrap a0) 6)))) (⟨(rd s6.2.2 (Int.tmod (IntKind.i64.wrap (rd a1 s6.2.1)) (IntKind.i64.wrap (1 + (Int.tmod (IntKind.i64.wrap a0) 6))))).f_Head, (rd s6.2.2 (Int.tmod (IntKind.i64.wrap (rd a1 s6.2.1)) (IntKind.i64.wrap (1 + (Int.tmod (IntKind.i64.wrap a0) 6))))).f_Flags, ((rd s6.2.2 (Int.tmod (IntKind.i64.wrap (rd a1 s6.2.1)) (IntKind.i64.wrap (1 + (Int.tmod (IntKind.i64.wrap a0) 6))))).f_Links ++ [(⟨1, IntKind.i64.wrap ((Int.tmod (IntKind.i64.wrap (rd a1 (IntKind.i64.wrap (s6.2.1 + 1)))) (IntKind.i64.wrap (1 + (Int.tmod (IntKind.i64.wrap a0) 6)))) + 1), IntKind.i64.wrap (1000 + s6.2.1), IntKind.i64.wrap (1 + (Int.tmod (IntKind.i64.wrap (rd a1 (IntKind.i64.wrap (s6.2.1 + 2)))) 5))⟩ : T_api_Link)]), (rd s6.2.2 (Int.tmod (IntKind.i64.wrap (rd a1 s6.2.1)) (IntKind.i64.wrap (1 + (Int.tmod (IntKind.i64.wrap a0) 6))))).f_Bits, (rd s6.2.2 (Int.tmod (IntKind.i64.wrap (rd a1 s6.2.1)) (IntKind.i64.wrap (1 + (Int.tmod (IntKind.i64.wrap a0) 6))))).f_Routers, (rd s6.2.2 (Int.tmod (IntKind.i64.wrap (rd a1 s6.2.1)) (IntKind.i64.wrap (1 + (Int.tmod (IntKind.i64.wrap a0) 6))))).f_Verts⟩ : T_api_Lsa)) (Int.tmod (IntKind.i64.wrap (rd a1 (IntKind.i64.wrap (s6.2.1 + 1)))) (IntKind.i64.wrap (1 + (Int.tmod (IntKind.i64.wrap a0) 6))))).f_Bits, (rd (setI s6.2.2 (Int.tmod (IntKind.i64.wrap (rd a1 s6.2.1)) (IntKind.i64.wrap (1 + (Int.tmod (IntKind.i64.wrap a0) 6)))) (⟨(rd s6.2.2 (Int.tmod (IntKind.i64.wrap (rd a1 s6.2.1)) (IntKind.i64.wrap (1 + (Int.tmod (IntKind.i64.wrap a0) 6))))).f_Head, (rd s6.2.2 (Int.tmod (IntKind.i64.wrap (rd a1 s6.2.1)) (IntKind.i64.wrap (1 + (Int.tmod (IntKind.i64.wrap a0) 6))))).f_Flags, ((rd s6.2.2 (Int.tmod (IntKind.i64.wrap (rd a1 s6.2.1)) (IntKind.i64.wrap (1 + (Int.tmod (IntKind.i64.wrap a0) 6))))).f_Links ++ [(⟨1, IntKind.i64.wrap ((Int.tmod (IntKind.i64.wrap (rd a1 (IntKind.i64.wrap (s6.2.1 + 1)))) (IntKind.i64.wrap (1 + (Int.tmod (IntKind.i64.wrap a0) 6)))) + 1), IntKind.i64.wrap (1000 + s6.2.1), IntKind.i64.wrap (1 + (Int.tmod (IntKind.i64.wrap (rd a1 (IntKind.i64.wrap (s6.2.1 + 2)))) 5))⟩ : T_api_Link)]), (rd s6.2.2 (Int.tmod (IntKind.i64.wrap (rd a1 s6.2.1)) (IntKind.i64.wrap (1 + (Int.tmod (IntKind.i64.wrap a0) 6))))).f_Bits, (rd s6.2.2 (Int.tmod (IntKind.i64.wrap (rd a1 s6.2.1)) (IntKind.i64.wrap (1 + (Int.tmod (IntKind.i64.wrap a0) 6))))).f_Routers, (rd s6.2.2 (Int.tmod (IntKind.i64.wrap (rd a1 s6.2.1)) (IntKind.i64.wrap (1 + (Int.tmod (IntKind.i64.wrap a0) 6))))).f_Verts⟩ : T_api_Lsa)) (Int.tmod (IntKind.i64.wrap (rd a1 (IntKind.i64.wrap (s6.2.1 + 1)))) (IntKind.i64.wrap (1 + (Int.tmod (IntKind.i64.wrap a0) 6))))).f_Routers, (rd (setI s6.2.2 (Int.tmod (IntKind.i64.wrap (rd a1 s6.2.1)) (IntKind.i64.wrap (1 + (Int.tmod (IntKind.i64.wrap a0) 6)))) (⟨(rd s6.2.2 (Int.tmod (IntKind.i64.wrap (rd a1 s6.2.1)) (IntKind.i64.wrap (1 + (Int.tmod (IntKind.i64.wrap a0) 6))))).f_Head, (rd s6.2.2 (Int.tmod (IntKind.i64.wrap (rd a1 s6.2.1)) (IntKind.i64.wrap (1 + (Int.tmod (IntKind.i64.wrap a0) 6))))).f_Flags, ((rd s6.2.2 (Int.tmod (IntKind.i64.wrap (rd a1 s6.2.1)) (IntKind.i64.wrap (1 + (Int.tmod (IntKind.i64.wrap a0) 6))))).f_Links ++ [(⟨1, IntKind.i64.wrap ((Int.tmod (IntKind.i64.wrap (rd a1 (IntKind.i64.wrap (s6.2.1 + 1)))) (IntKind.i64.wrap (1 + (Int.tmod (IntKind.i64.wrap a0) 6)))) + 1), IntKind.i64.wrap (1000 + s6.2.1), IntKind.i64.wrap (1 + (Int.tmod (IntKind.i64.wrap (rd a1 (IntKind.i64.wrap (s6.2.1 + 2)))) 5))⟩ : T_api_Link)]), (rd s6.2.2 (Int.tmod (IntKind.i64.wrap (rd a1 s6.2.1)) (IntKind.i64.wrap (1 + (Int.tmod (IntKind.i64.wrap a0) 6))))).f_Bits, (rd s6.2.2 (Int.tmod (IntKind.i64.wrap (rd a1 s6.2.1)) (IntKind.i64.wrap (1 + (Int.tmod (IntKind.i64.wrap a0) 6))))).f_Routers, (rd s6.2.2 (Int.tmod (IntKind.i64.wrap (rd a1 s6.2.1)) (IntKind.i64.wrap (1 + (Int.tmod (IntKind.i64.wrap a0) 6))))).f_Verts⟩ : T_api_Lsa)) (Int.tmod (IntKind.i64.wrap (rd a1 (IntKind.i64.wrap (s6.2.1 + 1)))) (IntKind.i64.wrap (1 + (Int.tmod (IntKind.i64.wrap a0) 6))))).f_Verts⟩ : T_api_Lsa)).length c10) rfl (by simp only [len_setI]) ?_
    refine lE ?_
    refine kN (?_)
    refine hK46 _ _ ?_
    refine cRgn [] trivial ?_
    refine sL (mv rfl) rfl ?_
    refine sL (bAdd rfl rfl) rfl ?_
    refine sL (asg rfl) rfl ?_
    refine lE ?_
    refine jN (kN (?_))
    refine hK40 _ _ ?_
    refine cRgn [] trivial ?_
    refine sL (mv rfl) rfl ?_
    refine sL (bAdd rfl rfl) rfl ?_
    refine sL (asg rfl) rfl ?_
    refine lE ?_
    refine kN (?_)
    have HF68 := HF67.sublist (sl_a (sl_da sR))
    exact ofEnv (fun a hE => ⟨_, (Option.some.inj H).symm, ⟨L40, hE.keep (Keep.cons rfl (Keep.cons rfl (Keep.cons rfl (Keep.cons rfl (Keep.cons rfl (Keep.cons rfl (Keep.cons rfl (Keep.cons rfl (Keep.nil))))))))), HF68, ho34⟩⟩)
   replace H := itF c124 H
   refine cSet (i := 101) rfl (vF c124) ?_
   refine cF rfl ?_
   refine cSkip ?_
   refine kN (?_)
   refine hK46 _ _ ?_
   refine cRgn [] trivial ?_
   refine sL (mv rfl) rfl ?_
   refine sL (bAdd rfl rfl) rfl ?_
   refine sL (asg rfl) rfl ?_
   refine lE ?_
   refine jN (kN (?_))
   refine hK40 _ _ ?_
   refine cRgn [] trivial ?_
   refine sL (mv rfl) rfl ?_
   refine sL (bAdd rfl rfl) rfl ?_
   refine sL (asg rfl) rfl ?_
   refine lE ?_
   refine kN (?_)
   exact ofEnv (fun a hE => ⟨_, (Option.some.inj H).symm, ⟨L35, hE.keep (Keep.cons rfl (Keep.cons rfl (Keep.cons rfl (Keep.cons rfl (Keep.cons rfl (Keep.cons rfl (Keep.cons rfl (Keep.cons rfl (Keep.nil))))))))), HF60, ho30⟩⟩)
  replace H := itF c95 H
  refine cSet (i := 45) rfl (vF c95) ?_
  refine cF rfl ?_
  refine cExit ?_
  refine kX (kX (jX (kN (?_))))
  exact ofEnv (fun a hE => ⟨_, (Option.some.inj H).symm, ⟨L30, hE.keep (Keep.cons rfl (Keep.cons rfl (Keep.cons rfl (Keep.cons rfl (Keep.cons rfl (Keep.cons rfl (Keep.cons rfl (Keep.cons rfl (Keep.nil))))))))), HF49, ho26⟩⟩)
 rintro s6 a w37 rfl ⟨L30, hE, HF69, ho26⟩
 replace H := Ho6
 refine go_k hE ?_
 refine kN (?_)
 refine hK16 _ _ ?_
 refine cSeq (fun K48 hK48 => ?_)
 refine cSeq (fun K49 hK49 => ?_)
 refine cRgn [] trivial ?_
 refine sL (asg rfl) rfl ?_
 refine lE ?_
 refine kN (?_)
 refine hK49 _ _ ?_
 replace H := bnd H; obtain ⟨y23, J5, Ho19⟩ := H
 refine cLoopB (f_plenumlaw17_Graph.b3 a0 a2 a3) (fun (s19 : (List T_api_Lsa) × Int × Int) a w => ∃ (A102 : Option Addr) (c293 : Nat) (L96 : Hp), Env 235 [(2, .slice A_a2 a2.length c_a2), (3, .slice A_a3 a3.length c_a3), (8, .slice none 0 0), (9, .int .i64 (IntKind.i64.wrap (1 + (Int.tmod (IntKind.i64.wrap a0) 6)))), (10, .slice A102 s19.1.length c293), (12, .int .i64 s19.2.1), (17, .int .i64 s19.2.2)] a ∧ Fits z w (L96 ++ F) ∧ OwnS k_T_api_Lsa L96 A102 c293 s19.1) J5 (fun a hE => ⟨_, _, L30, hE.keep (Keep.cons rfl (Keep.cons rfl (Keep.cons rfl (Keep.cons rfl (Keep.cons rfl (Keep.cons rfl (Keep.cons rfl (Keep.nil)))))))), HF69, ho26⟩) ?_ ?_
 ·rintro s19 a w94 y24 ⟨A102, c293, L96, hE, HF170, ho84⟩ H Hx5
  refine go_ hE ?_
  refine cSeq (fun K110 hK110 => ?_)
  refine cSeq (fun K111 hK111 => ?_)
  replace H := bnd H; obtain ⟨y25, H, Ho20⟩ := H
  refine cJoin (y := y25) (fun (s20 : Bool) a w => Env 235 [(2, .slice A_a2 a2.length c_a2), (3, .slice A_a3 a3.length c_a3), (8, .slice none 0 0), (9, .int .i64 (IntKind.i64.wrap (1 + (Int.tmod (IntKind.i64.wrap a0) 6)))), (10, .slice A102 s19.1.length c293), (12, .int .i64 s19.2.1), (17, .int .i64 s19.2.2), (131, .bool s20)] a ∧ Fits z w (L96 ++ F)) ?_ ?_
  ·refine cRgn [(4, 128)] ⟨rfl, trivial⟩ ?_
   refine sL (mv rfl) rfl ?_
   refine sL (mv rfl) rfl ?_
   refine sL (lnS rfl Try.underlying22) rfl ?_
   refine sL (bLss rfl rfl) rfl ?_
   refine sL (mv rfl) rfl ?_
   by_cases c295 : s19.2.2 < (a2.length : Int)
   ·replace H := itT c295 H
    refine lSet (i := 128) rfl (dT c295) ?_
    refine sG rfl rfl (mv rfl) rfl ?_
    refine sG rfl rfl (bLss rfl rfl) rfl ?_
    refine sL (pkT rfl rfl) rfl ?_
    refine lE ?_
    refine kN (?_)
    exact ofEnv (fun a hE => ⟨_, (Option.some.inj H).symm, ⟨hE.keep (Keep.cons rfl (Keep.cons rfl (Keep.cons rfl (Keep.cons rfl (Keep.cons rfl (Keep.cons rfl (Keep.cons rfl (Keep.cons rfl (Keep.nil))))))))), HF170⟩⟩)
   replace H := itF c295 H
   refine lSet (i := 128) rfl (dF c295) ?_
   refine sN rfl rfl rfl rfl ?_
   refine sN rfl rfl rfl rfl ?_
   refine sL (pkF rfl rfl) rfl ?_
   refine lE ?_
   refine kN (?_)
   exact ofEnv (fun a hE => ⟨_, (Option.some.inj H).symm, ⟨hE.keep (Keep.cons rfl (Keep.cons rfl (Keep.cons rfl (Keep.cons rfl (Keep.cons rfl (Keep.cons rfl (Keep.cons rfl (Keep.cons rfl (Keep.nil))))))))), HF170⟩⟩)
  rintro s20 a w95 rfl ⟨hE, HF171⟩
  replace H := Ho20
  refine go_k hE ?_
  refine kN (?_)
  refine hK111 _ _ ?_
  by_cases c296 : s20 = true
  ·replace H := itT c296 H
   refine cSet (i := 131) rfl (vT c296) ?_
   refine cT rfl ?_
   refine cSkip ?_
   refine kN (?_)
   refine hK110 _ _ ?_
   refine cSeq (fun K112 hK112 => ?_)
   refine cBlock ?_
   refine cSeq (fun K113 hK113 => ?_)
   refine cRgn [] trivial ?_
   refine sL (mv rfl) rfl ?_
   refine sL (bAdd rfl rfl) rfl ?_
   refine sL (bShl rfl rfl (by decide)) rfl ?_
   refine sL (mv rfl) rfl ?_
   refine sL (mv rfl) rfl ?_
   replace H := chk H; obtain ⟨c297, H⟩ := H
   replace H := chk H; obtain ⟨c298, H⟩ := H
   obtain ⟨g38, o36, _, rfl, rfl, q66⟩ := RdS.at_ hr_a2 c297 c298
   refine sL (ia rfl rfl Try.underlying22 ti5 c297 c298) rfl ?_
   refine sL (ld rfl Try.underlying5 rfl (HF171.cells ((sub_a hX_a2)) (q66 0 _ rfl))) rfl ?_
   refine sL (cvI rfl Try.underlying5 Try.underlying3) rfl ?_
   refine sL (mv rfl) rfl ?_
   replace H := chk H; obtain ⟨c299, H⟩ := H
   refine sL (bRem rfl rfl c299) rfl ?_
   refine sL (bAdd rfl rfl) rfl ?_
   refine sL (bd (r := [.int .i64 0, .int .i64 2, .int .i64 (shlI .i64 (IntKind.i64.wrap (101 + s19.2.2)) 8), .int .i64 (IntKind.i64.wrap (1 + (Int.tmod (IntKind.i64.wrap (rd a2 s19.2.2)) (IntKind.i64.wrap (1 + (Int.tmod (IntKind.i64.wrap a0) 6)))))), .int .i64 0, .int .i64 0, .int .i64 0]) pl41 ti41 rfl rfl) rfl ?_
   refine sL (bd (r := [.int .i64 0, .int .i64 2, .int .i64 (shlI .i64 (IntKind.i64.wrap (101 + s19.2.2)) 8), .int .i64 (IntKind.i64.wrap (1 + (Int.tmod (IntKind.i64.wrap (rd a2 s19.2.2)) (IntKind.i64.wrap (1 + (Int.tmod (IntKind.i64.wrap a0) 6)))))), .int .i64 0, .int .i64 0, .int .i64 0, .int .i64 0, .slice none 0 0, .int .i64 24, .slice none 0 0, .slice none 0 0]) pl44 ti44 rfl rfl) rfl ?_
   refine eW (oAlloc HF171 ti44) rfl ?_
   rintro _ w96 ⟨g39, rfl, HF172⟩
   refine eS (oSt (l1 := [.int .i64 0, .int .i64 2, .int .i64 (shlI .i64 (IntKind.i64.wrap (101 + s19.2.2)) 8), .int .i64 (IntKind.i64.wrap (1 + (Int.tmod (IntKind.i64.wrap (rd a2 s19.2.2)) (IntKind.i64.wrap (1 + (Int.tmod (IntKind.i64.wrap a0) 6)))))), .int .i64 0, .int .i64 0, .int .i64 0, .int .i64 0, .slice none 0 0, .int .i64 24, .slice none 0 0, .slice none 0 0]) HF172 rfl rfl ti44 rfl (ones rfl) (Nat.le_of_ble_eq_true rfl) rfl) ?_
   rintro w97 HF173
   refine lE ?_
   refine kN (?_)
   refine hK113 _ _ ?_
   refine cSeq (fun K114 hK114 => ?_)
   refine cSeq (fun K115 hK115 => ?_)
   refine cRgn [] trivial ?_
   refine sL (asg rfl) rfl ?_
   refine lE ?_
   refine kN (?_)
   refine hK115 _ _ ?_
   replace H := bnd H; obtain ⟨y28, J3, Ho23⟩ := H
   refine cLoopB (f_plenumlaw17_Graph.b2 a0 a2 a3 s19) (fun (s23 : Int × Int × (List Int) × (List T_api_Lsa)) a w => ∃ (A120 : Option Addr) (c347 : Nat) (L113 : Hp) (L114 : Hp), Env 235 [(2, .slice (some ⟨g38, o36, none⟩) a2.length c_a2), (3, .slice A_a3 a3.length c_a3), (8, .slice none 0 0), (9, .int .i64 (IntKind.i64.wrap (1 + (Int.tmod (IntKind.i64.wrap a0) 6)))), (10, .slice A102 s23.2.2.2.length c293), (12, .int .i64 s23.1), (17, .int .i64 s19.2.2), (18, .pointer (some ⟨g39, 0, none⟩)), (19, .int .i64 s23.2.1)] a ∧ Fits z w (L113 ++ (bk g39 44 [.int .i64 0, .int .i64 2, .int .i64 (shlI .i64 (IntKind.i64.wrap (101 + s19.2.2)) 8), .int .i64 (IntKind.i64.wrap (1 + (Int.tmod (IntKind.i64.wrap (rd a2 s19.2.2)) (IntKind.i64.wrap (1 + (Int.tmod (IntKind.i64.wrap a0) 6)))))), .int .i64 0, .int .i64 0, .int .i64 0, .int .i64 0, .slice none 0 0, .int .i64 24, .slice A120 s23.2.2.1.length c347, .slice none 0 0] :: (L114 ++ F))) ∧ OwnS (kInt .i64) L113 A120 c347 s23.2.2.1 ∧ OwnS k_T_api_Lsa L114 A102 c293 s23.2.2.2) J3 (fun a hE => ⟨none, 0, [], L96, hE.keep (Keep.cons rfl (Keep.cons rfl (Keep.cons rfl (Keep.cons rfl (Keep.cons rfl (Keep.cons rfl (Keep.cons rfl (Keep.cons rfl (Keep.cons rfl (Keep.nil)))))))))), HF173, OwnS.nil, ho84⟩) ?_ ?_
   ·rintro s23 a w112 y29 ⟨A120, c347, L113, L114, hE, HF201, ho99, ho100⟩ H Hx6
    refine go_ hE ?_
    refine cSeq (fun K132 hK132 => ?_)
    refine cSeq (fun K133 hK133 => ?_)
    refine cRgn [] trivial ?_
    refine sL (mv rfl) rfl ?_
    refine sL (mv rfl) rfl ?_
    refine sL (bLss rfl rfl) rfl ?_
    refine lE ?_
    refine kN (?_)
    refine hK133 _ _ ?_
    by_cases c348 : s23.2.1 < (IntKind.i64.wrap (1 + (Int.tmod (IntKind.i64.wrap a0) 6)))
    ·replace H := itT c348 H
     refine cSet (i := 149) rfl (dT c348) ?_
     refine cT rfl ?_
     refine cSkip ?_
     refine kN (?_)
     refine hK132 _ _ ?_
     refine cSeq (fun K134 hK134 => ?_)
     refine cBlock ?_
     refine cSeq (fun K135 hK135 => ?_)
     refine cSeq (fun K136 hK136 => ?_)
     refine cRgn [] trivial ?_
     refine sL (mv rfl) rfl ?_
     refine sL (mv rfl) rfl ?_
     replace H := chk H; obtain ⟨c349, H⟩ := H
     replace H := chk H; obtain ⟨c350, H⟩ := H
     obtain ⟨_, rfl, q77⟩ := RdS.at' hr_a2 c349 c350
     refine sL (ia rfl rfl Try.underlying22 ti5 c349 c350) rfl ?_
     refine sL (ld rfl Try.underlying5 rfl (HF201.cells ((sub_a (sub_c (sub_a hX_a2)))) (q77 0 _ rfl))) rfl ?_
     refine sL (mv rfl) rfl ?_
     refine sL (cvI rfl Try.underlying3 Try.underlying57) rfl ?_
     replace H := chk H; obtain ⟨c351, H⟩ := H
     refine sL (bShr rfl rfl c351) rfl ?_
     refine sL (bAnd rfl rfl) rfl ?_
     refine sL (bEql rfl rfl) rfl ?_
     refine lE ?_
     refine kN (?_)
     refine hK136 _ _ ?_
     by_cases c352 : (bits .and .u8 (shrI .u8 (rd a2 s19.2.2) (IntKind.u64.wrap s23.2.1)) 1) = 0
     ·replace H := itT c352 H
      refine cSet (i := 160) rfl (dT c352) ?_
      refine cT rfl ?_
      refine cExit ?_
      refine kX (jX (kN (?_)))
      refine hK134 _ _ ?_
      refine cRgn [] trivial ?_
      refine sL (mv rfl) rfl ?_
      refine sL (bAdd rfl rfl) rfl ?_
      refine sL (asg rfl) rfl ?_
      refine lE ?_
      refine kN (?_)
      exact ofEnv (fun a hE => ⟨_, (Option.some.inj H).symm, ⟨_, _, L113, L114, hE.keep (Keep.cons rfl (Keep.cons rfl (Keep.cons rfl (Keep.cons rfl (Keep.cons rfl (Keep.cons rfl (Keep.cons rfl (Keep.cons rfl (Keep.cons rfl (Keep.nil)))))))))), HF201, ho99, ho100⟩⟩)
     replace H := itF c352 H
     refine cSet (i := 160) rfl (dF c352) ?_
     refine cF rfl ?_
     refine cSkip ?_
     refine kN (?_)
     refine hK135 _ _ ?_
     refine cSeq (fun K137 hK137 => ?_)
     refine cRgn [] trivial ?_
     refine sL (fa44_4 rfl) rfl ?_
     refine sL (ld rfl Try.underlying30 rfl (HF201.box (mem_a mem_h) rfl)) rfl ?_
     refine sL (mv rfl) rfl ?_
     refine sL (bAdd rfl rfl) rfl ?_
     refine eW (oLit (r := [.int .i64 (IntKind.i64.wrap (s23.2.1 + 1))]) (kInt .i64) [IntKind.i64.wrap (s23.2.1 + 1)] HF201 Try.underlying30 ti3 rfl rfl rfl rfl ⟨[], [], [.int .i64 (IntKind.i64.wrap (s23.2.1 + 1))], _, rfl, rfl, ⟨rfl, rfl⟩, ⟨rfl, rfl⟩⟩ rfl rfl) rfl ?_
     rintro _ w113 ⟨L115, A121, c353, rfl, HF202, ho101⟩
     replace H := chk H; obtain ⟨c354, H⟩ := H
     have HF203 := HF202.perm (perm_f pR)
     refine eW (oApp (xs := s23.2.2.1) (ys := ([IntKind.i64.wrap (s23.2.1 + 1)])) (kInt .i64) HF203 rfl rfl Try.underlying30 Try.underlying30 ti3 rfl ho99 (srcR shrF ho101.rd HF203 (sub_a sub_h)) c354 rfl) rfl ?_
     rintro _ w114 ⟨L116, A122, c355, rfl, HF204, ho102⟩
     refine sL (fa44_4 rfl) rfl ?_
     have HF205 := HF204.perm (perm_f1 (perm_f1 pR))
     refine eS (oSt1 (l1 := [.int .i64 0, .int .i64 2, .int .i64 (shlI .i64 (IntKind.i64.wrap (101 + s19.2.2)) 8), .int .i64 (IntKind.i64.wrap (1 + (Int.tmod (IntKind.i64.wrap (rd a2 s19.2.2)) (IntKind.i64.wrap (1 + (Int.tmod (IntKind.i64.wrap a0) 6)))))), .int .i64 0, .int .i64 0, .int .i64 0, .int .i64 0, .slice none 0 0, .int .i64 24, .slice A122 (s23.2.2.1 ++ [IntKind.i64.wrap (s23.2.1 + 1)]).length c355, .slice none 0 0]) HF205 rfl rfl ti30 rfl rfl rfl) ?_
     rintro w115 HF206
     refine lE ?_
     refine kN (?_)
     refine hK137 _ _ ?_
     refine cSeq (fun K138 hK138 => ?_)
     refine cSeq (fun K139 hK139 => ?_)
     replace H := bnd H; obtain ⟨y30, H, Ho24⟩ := H
     refine cJoin (y := y30) (fun (s24 : Bool) a w => Env 235 [(2, .slice (some ⟨g38, o36, none⟩) a2.length c_a2), (3, .slice A_a3 a3.length c_a3), (8, .slice none 0 0), (9, .int .i64 (IntKind.i64.wrap (1 + (Int.tmod (IntKind.i64.wrap a0) 6)))), (10, .slice A102 s23.2.2.2.length c293), (12, .int .i64 s23.1), (17, .int .i64 s19.2.2), (18, .pointer (some ⟨g39, 0, none⟩)), (19, .int .i64 s23.2.1), (178, .bool s24)] a ∧ Fits z w (bk g39 44 [.int .i64 0, .int .i64 2, .int .i64 (shlI .i64 (IntKind.i64.wrap (101 + s19.2.2)) 8), .int .i64 (IntKind.i64.wrap (1 + (Int.tmod (IntKind.i64.wrap (rd a2 s19.2.2)) (IntKind.i64.wrap (1 + (Int.tmod (IntKind.i64.wrap a0) 6)))))), .int .i64 0, .int .i64 0, .int .i64 0, .int .i64 0, .slice none 0 0, .int .i64 24, .slice A122 (s23.2.2.1 ++ [IntKind.i64.wrap (s23.2.1 + 1)]).length c355, .slice none 0 0] :: (L116 ++ (L114 ++ F)))) ?_ ?_
     ·refine cRgn [(4, 172)] ⟨rfl, trivial⟩ ?_
      refine sL (mv rfl) rfl ?_
      refine sL (mv rfl) rfl ?_
      refine sL (lnS rfl Try.underlying23) rfl ?_
      refine sL (bGeq rfl rfl) rfl ?_
      refine sL (mv rfl) rfl ?_
      by_cases c359 : (a3.length : Int) ≤ s23.1
      ·replace H := itT c359 H
       refine lSet (i := 172) rfl (dT c359) ?_
       refine sN rfl rfl rfl rfl ?_
       refine sN rfl rfl rfl rfl ?_
       refine sN rfl rfl rfl rfl ?_
       refine sN rfl rfl rfl rfl ?_
       refine sN rfl rfl rfl rfl ?_
       refine sL (pkT rfl rfl) rfl ?_
       refine lE ?_
       refine kN (?_)
       have HF207 := HF206.sublist (sl_c (sl_a (sl_da (sl_a sR))))
       exact ofEnv (fun a hE => ⟨_, (Option.some.inj H).symm, ⟨hE.keep (Keep.cons rfl (Keep.cons rfl (Keep.cons rfl (Keep.cons rfl (Keep.cons rfl (Keep.cons rfl (Keep.cons rfl (Keep.cons rfl (Keep.cons rfl (Keep.cons rfl (Keep.nil))))))))))), HF207⟩⟩)
      replace H := itF c359 H
      refine lSet (i := 172) rfl (dF c359) ?_
      refine sG rfl rfl (mv rfl) rfl ?_
      refine sG rfl rfl (mv rfl) rfl ?_
      replace H := chk H; obtain ⟨c360, H⟩ := H
      replace H := chk H; obtain ⟨c361, H⟩ := H
      obtain ⟨g47, o44, _, rfl, rfl, q79⟩ := RdS.at_ hr_a3 c360 c361
      refine sG rfl rfl (ia rfl rfl Try.underlying23 ti4 c360 c361) rfl ?_
      refine sG rfl rfl (ld rfl Try.underlying4 rfl (HF206.cells ((sub_c (sub_a (sub_a (sub_a hX_a3))))) (q79 0 _ rfl))) rfl ?_
      refine sG rfl rfl (uNot rfl) rfl ?_
      refine sL (pkF rfl rfl) rfl ?_
      refine lE ?_
      refine kN (?_)
      have HF208 := HF206.sublist (sl_c (sl_a (sl_da (sl_a sR))))
      exact ofEnv (fun a hE => ⟨_, (Option.some.inj H).symm, ⟨hE.keep (Keep.cons rfl (Keep.cons rfl (Keep.cons rfl (Keep.cons rfl (Keep.cons rfl (Keep.cons rfl (Keep.cons rfl (Keep.cons rfl (Keep.cons rfl (Keep.cons rfl (Keep.nil))))))))))), HF208⟩⟩)
     rintro s24 a w116 rfl ⟨hE, HF209⟩
     replace H := Ho24
     refine go_k hE ?_
     refine kN (?_)
     refine hK139 _ _ ?_
     by_cases c362 : s24 = true
     ·replace H := itT c362 H
      refine cSet (i := 178) rfl (vT c362) ?_
      refine cT rfl ?_
      refine cRgn [] trivial ?_
      refine sL (mv rfl) rfl ?_
      refine sL (mv rfl) rfl ?_
      refine sL (mv rfl) rfl ?_
      refine sL (mv rfl) rfl ?_
      replace H := chk H; obtain ⟨c363, H⟩ := H
      replace H := chk H; obtain ⟨c364, H⟩ := H
      obtain ⟨g48, o45, e95, rfl, hk15, q80⟩ := RdS.at_ ho100.rd c363 c364
      obtain ⟨A123, c365, A124, c366, A125, c367, rfl, hr43, hr44, hr45⟩ := rd_T_api_Lsa hk15
      refine sL (ia rfl rfl Try.underlying24 ti44 c363 c364) rfl ?_
      refine sL (fa44_2 rfl) rfl ?_
      have HF210 := HF209.perm (perm_c (perm_f pR))
      obtain ⟨L117, L118, A126, c368, HF211, hc15, ho103, hl15⟩ := OwnS.focF (i := s23.2.1) slf44_8 HF210 ho100 c363 c364
      refine sL (ld rfl Try.underlying42 rfl (HF211.cells (sub_a sub_h) hc15)) rfl ?_
      refine sL (mv rfl) rfl ?_
      refine sL (bAdd rfl rfl) rfl ?_
      refine sL (bShl rfl rfl (by decide)) rfl ?_
      refine sL (mv rfl) rfl ?_
      refine sL (bAdd rfl rfl) rfl ?_
      refine sL (bShl rfl rfl (by decide)) rfl ?_
      refine sL (bAdd rfl rfl) rfl ?_
      refine sL (mv rfl) rfl ?_
      refine sL (bAdd rfl rfl) rfl ?_
      refine sL (mv rfl) rfl ?_
      refine sL (mv rfl) rfl ?_
      refine sL (bAdd rfl rfl) rfl ?_
      refine sL (bRem rfl rfl (by decide)) rfl ?_
      refine sL (bAdd rfl rfl) rfl ?_
      refine sL (bd (r := [.int .i64 2, .int .i64 (shlI .i64 (IntKind.i64.wrap (101 + s19.2.2)) 8), .int .i64 (IntKind.i64.wrap ((IntKind.i64.wrap ((shlI .i64 (IntKind.i64.wrap (101 + s19.2.2)) 8) + 1)) + s23.2.1)), .int .i64 (IntKind.i64.wrap (1 + (Int.tmod (IntKind.i64.wrap (s19.2.2 + s23.2.1)) 4)))]) pl56 ti56 rfl rfl) rfl ?_
      refine eW (oLit (r := [.int .i64 2, .int .i64 (shlI .i64 (IntKind.i64.wrap (101 + s19.2.2)) 8), .int .i64 (IntKind.i64.wrap ((IntKind.i64.wrap ((shlI .i64 (IntKind.i64.wrap (101 + s19.2.2)) 8) + 1)) + s23.2.1)), .int .i64 (IntKind.i64.wrap (1 + (Int.tmod (IntKind.i64.wrap (s19.2.2 + s23.2.1)) 4)))]) k_T_api_Link [(⟨2, shlI .i64 (IntKind.i64.wrap (101 + s19.2.2)) 8, IntKind.i64.wrap ((IntKind.i64.wrap ((shlI .i64 (IntKind.i64.wrap (101 + s19.2.2)) 8) + 1)) + s23.2.1), IntKind.i64.wrap (1 + (Int.tmod (IntKind.i64.wrap (s19.2.2 + s23.2.1)) 4))⟩ : T_api_Link)] HF211 Try.underlying42 ti56 rfl rfl rfl rfl ⟨[], [], [.int .i64 2, .int .i64 (shlI .i64 (IntKind.i64.wrap (101 + s19.2.2)) 8), .int .i64 (IntKind.i64.wrap ((IntKind.i64.wrap ((shlI .i64 (IntKind.i64.wrap (101 + s19.2.2)) 8) + 1)) + s23.2.1)), .int .i64 (IntKind.i64.wrap (1 + (Int.tmod (IntKind.i64.wrap (s19.2.2 + s23.2.1)) 4)))], _, rfl, rfl, ⟨rfl, rfl⟩, ⟨rfl, rfl⟩⟩ rfl rfl) rfl ?_
      rintro _ w117 ⟨L119, A127, c369, rfl, HF212, ho104⟩
      replace H := chk H; obtain ⟨c370, H⟩ := H
      have HF213 := HF212.perm (perm_f pR)
      refine eW (oApp (xs := (rd s23.2.2.2 s23.2.1).f_Links) (ys := ([(⟨2, shlI .i64 (IntKind.i64.wrap (101 + s19.2.2)) 8, IntKind.i64.wrap ((IntKind.i64.wrap ((shlI .i64 (IntKind.i64.wrap (101 + s19.2.2)) 8) + 1)) + s23.2.1), IntKind.i64.wrap (1 + (Int.tmod (IntKind.i64.wrap (s19.2.2 + s23.2.1)) 4))⟩ : T_api_Link)])) k_T_api_Link HF213 rfl rfl Try.underlying42 Try.underlying42 ti56 rfl ho103 (srcR shrF ho104.rd HF213 (sub_a sub_h)) c370 rfl) rfl ?_
      rintro _ w118 ⟨L120, A128, c371, rfl, HF214, ho105⟩
      refine sL (ia rfl rfl Try.underlying24 ti44 c363 c364) rfl ?_
      refine sL (fa44_2 rfl) rfl ?_
      have HF215 := HF214.perm (perm_f (perm_f pR))
      have HF216 := HF215.perm (perm_f pR)
      refine eS (oStF HF216 hl15 ho105 rfl rfl ti42) ?_
      rintro w119 ⟨L121, HF217, ho106⟩
      refine lSet (i := 10) (v := .slice (some ⟨g48, o45, none⟩) (setI s23.2.2.2 s23.2.1 (⟨(rd s23.2.2.2 s23.2.1).f_Head, (rd s23.2.2.2 s23.2.1).f_Flags, ((rd s23.2.2.2 s23.2.1).f_Links ++ [(⟨2, shlI .i64 (IntKind.i64.wrap (101 + s19.2.2)) 8, IntKind.i64.wrap ((IntKind.i64.wrap ((shlI .i64 (IntKind.i64.wrap (101 + s19.2.2)) 8) + 1)) + s23.2.1), IntKind.i64.wrap (1 + (Int.tmod (IntKind.i64.wrap (s19.2.2 + s23.2.1)) 4))⟩ : T_api_Link)]), (rd s23.2.2.2 s23.2.1).f_Bits, (rd s23.2.2.2 s23.2.1).f_Routers, (rd s23.2.2.2 s23.2.1).f_Verts⟩ : T_api_Lsa)).length c293) rfl (by simp only [len_setI]) ?_
      refine lSet (i := 179) (v := .slice (some ⟨g48, o45, none⟩) (setI s23.2.2.2 s23.2.1 (⟨(rd s23.2.2.2 s23.2.1).f_Head, (rd s23.2.2.2 s23.2.1).f_Flags, ((rd s23.2.2.2 s23.2.1).f_Links ++ [(⟨2, shlI .i64 (IntKind.i64.wrap (101 + s19.2.2)) 8, IntKind.i64.wrap ((IntKind.i64.wrap ((shlI .i64 (IntKind.i64.wrap (101 + s19.2.2)) 8) + 1)) + s23.2.1), IntKind.i64.wrap (1 + (Int.tmod (IntKind.i64.wrap (s19.2.2 + s23.2.1)) 4))⟩ : T_api_Link)]), (rd s23.2.2.2 s23.2.1).f_Bits, (rd s23.2.2.2 s23.2.1).f_Routers, (rd s23.2.2.2 s23.2.1).f_Verts⟩ : T_api_Lsa)).length c293) rfl (by simp only [len_setI]) ?_
      refine lSet (i := 181) (v := .slice (some ⟨g48, o45, none⟩) (setI s23.2.2.2 s23.2.1 (⟨(rd s23.2.2.2 s23.2.1).f_Head, (rd s23.2.2.2 s23.2.1).f_Flags, ((rd s23.2.2.2 s23.2.1).f_Links ++ [(⟨2, shlI .i64 (IntKind.i64.wrap (101 + s19.2.2)) 8, IntKind.i64.wrap ((IntKind.i64.wrap ((shlI .i64 (IntKind.i64.wrap (101 + s19.2.2)) 8) + 1)) + s23.2.1), IntKind.i64.wrap (1 + (Int.tmod (IntKind.i64.wrap (s19.2.2 + s23.2.1)) 4))⟩ : T_api_Link)]), (rd s23.2.2.2 s23.2.1).f_Bits, (rd s23.2.2.2 s23.2.1).f_Routers, (rd s23.2.2.2 s23.2.1).f_Verts⟩ : T_api_Lsa)).length c293) rfl (by simp only [len_setI]) ?_
      refine lE ?_
      refine kN (?_)
      refine hK138 _ _ ?_
      refine cRgn [] trivial ?_
      refine sL (mv rfl) rfl ?_
      refine sL (bAdd rfl rfl) rfl ?_
      refine sL (asg rfl) rfl ?_
      refine lE ?_
      refine jN (kN (?_))
      refine hK134 _ _ ?_
      refine cRgn [] trivial ?_
      refine sL (mv rfl) rfl ?_
      refine sL (bAdd rfl rfl) rfl ?_
      refine sL (asg rfl) rfl ?_
      refine lE ?_
      refine kN (?_)
      have HF218 := HF217.sublist (sl_a (sl_da (sl_c (sl_a sR))))
      have HF219 := HF218.perm (perm_f1 pR)
      have HF220 := HF219.perm (perm_c (perm_f pR))
      exact ofEnv (fun a hE => ⟨_, (Option.some.inj H).symm, ⟨_, _, L116, L121, hE.keep (Keep.cons rfl (Keep.cons rfl (Keep.cons rfl (Keep.cons rfl (Keep.cons rfl (Keep.cons rfl (Keep.cons rfl (Keep.cons rfl (Keep.cons rfl (Keep.nil)))))))))), HF220, ho102, ho106⟩⟩)
     replace H := itF c362 H
     refine cSet (i := 178) rfl (vF c362) ?_
     refine cF rfl ?_
     refine cSkip ?_
     refine kN (?_)
     refine hK138 _ _ ?_
     refine cRgn [] trivial ?_
     refine sL (mv rfl) rfl ?_
     refine sL (bAdd rfl rfl) rfl ?_
     refine sL (asg rfl) rfl ?_
     refine lE ?_
     refine jN (kN (?_))
     refine hK134 _ _ ?_
     refine cRgn [] trivial ?_
     refine sL (mv rfl) rfl ?_
     refine sL (bAdd rfl rfl) rfl ?_
     refine sL (asg rfl) rfl ?_
     refine lE ?_
     refine kN (?_)
     have HF221 := HF209.perm (perm_c (perm_f pR))
     have HF222 := HF221.perm (perm_f1 pR)
     have HF223 := HF222.perm (perm_c (perm_f pR))
     exact ofEnv (fun a hE => ⟨_, (Option.some.inj H).symm, ⟨_, _, L116, L114, hE.keep (Keep.cons rfl (Keep.cons rfl (Keep.cons rfl (Keep.cons rfl (Keep.cons rfl (Keep.cons rfl (Keep.cons rfl (Keep.cons rfl (Keep.cons rfl (Keep.nil)))))))))), HF223, ho102, ho100⟩⟩)
    replace H := itF c348 H
    refine cSet (i := 149) rfl (dF c348) ?_
    refine cF rfl ?_
    refine cExit ?_
    refine kX (kX (jX (kN (?_))))
    exact ofEnv (fun a hE => ⟨_, (Option.some.inj H).symm, ⟨_, _, L113, L114, hE.keep (Keep.cons rfl (Keep.cons rfl (Keep.cons rfl (Keep.cons rfl (Keep.cons rfl (Keep.cons rfl (Keep.cons rfl (Keep.cons rfl (Keep.cons rfl (Keep.nil)))))))))), HF201, ho99, ho100⟩⟩)
   rintro s23 a w120 rfl ⟨A120, c347, L113, L114, hE, HF224, ho99, ho100⟩
   replace H := Ho23
   refine go_k hE ?_
   refine kN (?_)
   refine hK114 _ _ ?_
   refine cRgn [] trivial ?_
   refine sL (mv rfl) rfl ?_
   refine sL (ldA (cs := [.int .i64 0, .int .i64 2, .int .i64 (shlI .i64 (IntKind.i64.wrap (101 + s19.2.2)) 8), .int .i64 (IntKind.i64.wrap (1 + (Int.tmod (IntKind.i64.wrap (rd a2 s19.2.2)) (IntKind.i64.wrap (1 + (Int.tmod (IntKind.i64.wrap a0) 6)))))), .int .i64 0, .int .i64 0, .int .i64 0, .int .i64 0, .slice none 0 0, .int .i64 24, .slice A120 s23.2.2.1.length c347, .slice none 0 0]) rfl ti44 rfl rfl (HF224.boxes (o := 0) (n := 12) (mem_a mem_h) rfl)) rfl ?_
   have HF225 := Fits.conv (L' := (L113 ++ []) ++ (bk g39 44 [.int .i64 0, .int .i64 2, .int .i64 (shlI .i64 (IntKind.i64.wrap (101 + s19.2.2)) 8), .int .i64 (IntKind.i64.wrap (1 + (Int.tmod (IntKind.i64.wrap (rd a2 s19.2.2)) (IntKind.i64.wrap (1 + (Int.tmod (IntKind.i64.wrap a0) 6)))))), .int .i64 0, .int .i64 0, .int .i64 0, .int .i64 0, .slice none 0 0, .int .i64 24, .slice A120 s23.2.2.1.length c347, .slice none 0 0] :: (L114 ++ F))) HF224 (by simp only [List.append_assoc, List.nil_append, List.append_nil])
   refine eW (oLitP (r := [.int .i64 0, .int .i64 2, .int .i64 (shlI .i64 (IntKind.i64.wrap (101 + s19.2.2)) 8), .int .i64 (IntKind.i64.wrap (1 + (Int.tmod (IntKind.i64.wrap (rd a2 s19.2.2)) (IntKind.i64.wrap (1 + (Int.tmod (IntKind.i64.wrap a0) 6)))))), .int .i64 0, .int .i64 0, .int .i64 0, .int .i64 0, .slice none 0 0, .int .i64 24, .slice A120 s23.2.2.1.length c347, .slice none 0 0]) (Le := (L113 ++ [])) k_T_api_Lsa ([(⟨(⟨0, 2, shlI .i64 (IntKind.i64.wrap (101 + s19.2.2)) 8, IntKind.i64.wrap (1 + (Int.tmod (IntKind.i64.wrap (rd a2 s19.2.2)) (IntKind.i64.wrap (1 + (Int.tmod (IntKind.i64.wrap a0) 6))))), 0, 0, 0⟩ : T_api_Head), 0, [], 24, s23.2.2.1, []⟩ : T_api_Lsa)] : List T_api_Lsa) HF225 Try.underlying24 ti44 rfl rfl rfl rfl (OwnE.one (K := k_T_api_Lsa) ⟨[], _, [.int .i64 0, .int .i64 2, .int .i64 (shlI .i64 (IntKind.i64.wrap (101 + s19.2.2)) 8), .int .i64 (IntKind.i64.wrap (1 + (Int.tmod (IntKind.i64.wrap (rd a2 s19.2.2)) (IntKind.i64.wrap (1 + (Int.tmod (IntKind.i64.wrap a0) 6)))))), .int .i64 0, .int .i64 0, .int .i64 0], _, rfl, rfl, ⟨rfl, rfl⟩, ⟨[], _, [.int .i64 0], _, rfl, rfl, ⟨rfl, rfl⟩, ⟨[], _, [.slice none 0 0], _, rfl, rfl, ⟨_, _, rfl, OwnS.nil⟩, ⟨[], _, [.int .i64 24], _, rfl, rfl, ⟨rfl, rfl⟩, ⟨L113, _, [.slice A120 s23.2.2.1.length c347], _, rfl, rfl, ⟨_, _, rfl, ho99⟩, ⟨_, _, rfl, OwnS.nil⟩⟩⟩⟩⟩⟩) rfl rfl) rfl ?_
   rintro _ w121 ⟨L122, A129, c372, rfl, HF226, ho107⟩
   replace H := chk H; obtain ⟨c373, H⟩ := H
   have HF227 := HF226.perm (perm_f (perm_c pR))
   refine eW (oAppP (xs := s23.2.2.2) (ys := ([(⟨(⟨0, 2, shlI .i64 (IntKind.i64.wrap (101 + s19.2.2)) 8, IntKind.i64.wrap (1 + (Int.tmod (IntKind.i64.wrap (rd a2 s19.2.2)) (IntKind.i64.wrap (1 + (Int.tmod (IntKind.i64.wrap a0) 6))))), 0, 0, 0⟩ : T_api_Head), 0, [], 24, s23.2.2.1, []⟩ : T_api_Lsa)])) k_T_api_Lsa HF227 rfl rfl Try.underlying24 Try.underlying24 ti44 rfl ho100 ho107 c373 rfl) rfl ?_
   rintro _ w122 ⟨L123, A130, c374, rfl, HF228, ho108⟩
   refine sL (asg rfl) rfl ?_
   refine lE ?_
   refine jN (kN (?_))
   refine hK112 _ _ ?_
   refine cRgn [] trivial ?_
   refine sL (mv rfl) rfl ?_
   refine sL (bAdd rfl rfl) rfl ?_
   refine sL (asg rfl) rfl ?_
   refine lE ?_
   refine kN (?_)
   have HF229 := HF228.sublist (sl_a (sl_dc sR))
   exact ofEnv (fun a hE => ⟨_, (Option.some.inj H).symm, ⟨_, _, L123, hE.keep (Keep.cons rfl (Keep.cons rfl (Keep.cons rfl (Keep.cons rfl (Keep.cons rfl (Keep.cons rfl (Keep.cons rfl (Keep.nil)))))))), HF229, ho108⟩⟩)
  replace H := itF c296 H
  refine cSet (i := 131) rfl (vF c296) ?_
  refine cF rfl ?_
  refine cExit ?_
  refine kX (kX (jX (kN (?_))))
  exact ofEnv (fun a hE => ⟨_, (Option.some.inj H).symm, ⟨_, _, L96, hE.keep (Keep.cons rfl (Keep.cons rfl (Keep.cons rfl (Keep.cons rfl (Keep.cons rfl (Keep.cons rfl (Keep.cons rfl (Keep.nil)))))))), HF171, ho84⟩⟩)
 rintro s19 a w123 rfl ⟨A102, c293, L96, hE, HF230, ho84⟩
 replace H := Ho19
 refine go_k hE ?_
 refine kN (?_)
 refine hK48 _ _ ?_
 refine cSeq (fun K140 hK140 => ?_)
 refine cSeq (fun K141 hK141 => ?_)
 refine cRgn [] trivial ?_
 refine sL (asg rfl) rfl ?_
 refine lE ?_
 refine kN (?_)
 refine hK141 _ _ ?_
 replace H := bnd H; obtain ⟨y31, J4, Ho25⟩ := H
 refine cLoopB (f_plenumlaw17_Graph.b4 a0) (fun (s25 : Int × (List T_api_Lsa)) a w => ∃ (L135 : Hp), Env 235 [(8, .slice none 0 0), (9, .int .i64 (IntKind.i64.wrap (1 + (Int.tmod (IntKind.i64.wrap a0) 6)))), (10, .slice A102 s25.2.length c293), (20, .int .i64 s25.1)] a ∧ Fits z w (L135 ++ F) ∧ OwnS k_T_api_Lsa L135 A102 c293 s25.2) J4 (fun a hE => ⟨L96, hE.keep (Keep.cons rfl (Keep.cons rfl (Keep.cons rfl (Keep.cons rfl (Keep.nil))))), HF230, ho84⟩) ?_ ?_
 ·rintro s25 a w130 y32 ⟨L135, hE, HF245, ho118⟩ H Hx7
  refine go_ hE ?_
  refine cSeq (fun K148 hK148 => ?_)
  refine cSeq (fun K149 hK149 => ?_)
  refine cRgn [] trivial ?_
  refine sL (mv rfl) rfl ?_
  refine sL (mv rfl) rfl ?_
  refine sL (bLss rfl rfl) rfl ?_
  refine lE ?_
  refine kN (?_)
  refine hK149 _ _ ?_
  by_cases c394 : s25.1 < (IntKind.i64.wrap (1 + (Int.tmod (IntKind.i64.wrap a0) 6)))
  ·replace H := itT c394 H
   refine cSet (i := 213) rfl (dT c394) ?_
   refine cT rfl ?_
   refine cSkip ?_
   refine kN (?_)
   refine hK148 _ _ ?_
   refine cSeq (fun K150 hK150 => ?_)
   refine cBlock ?_
   refine cRgn [] trivial ?_
   refine sL (mv rfl) rfl ?_
   refine sL (mv rfl) rfl ?_
   refine sL (mv rfl) rfl ?_
   refine sL (mv rfl) rfl ?_
   replace H := chk H; obtain ⟨c395, H⟩ := H
   replace H := chk H; obtain ⟨c396, H⟩ := H
   obtain ⟨g51, o48, e104, rfl, hk18, q86⟩ := RdS.at_ ho118.rd c395 c396
   obtain ⟨A143, c397, A144, c398, A145, c399, rfl, hr52, hr53, hr54⟩ := rd_T_api_Lsa hk18
   refine sL (ia rfl rfl Try.underlying24 ti44 c395 c396) rfl ?_
   refine sL (fa44_2 rfl) rfl ?_
   obtain ⟨L136, L137, A146, c400, HF246, hc18, ho119, hl18⟩ := OwnS.focF (i := s25.1) slf44_8 HF245 ho118 c395 c396
   refine sL (ld rfl Try.underlying42 rfl (HF246.cells (sub_a sub_h) hc18)) rfl ?_
   refine sL (mv rfl) rfl ?_
   refine sL (bAdd rfl rfl) rfl ?_
   refine sL (bShl rfl rfl (by decide)) rfl ?_
   refine sL (mv rfl) rfl ?_
   refine sL (bRem rfl rfl (by decide)) rfl ?_
   refine sL (bAdd rfl rfl) rfl ?_
   refine sL (bd (r := [.int .i64 3, .int .i64 (shlI .i64 (IntKind.i64.wrap (201 + s25.1)) 8), .int .i64 4294967040, .int .i64 (IntKind.i64.wrap (1 + (Int.tmod s25.1 3)))]) pl56 ti56 rfl rfl) rfl ?_
   refine eW (oLit (r := [.int .i64 3, .int .i64 (shlI .i64 (IntKind.i64.wrap (201 + s25.1)) 8), .int .i64 4294967040, .int .i64 (IntKind.i64.wrap (1 + (Int.tmod s25.1 3)))]) k_T_api_Link [(⟨3, shlI .i64 (IntKind.i64.wrap (201 + s25.1)) 8, 4294967040, IntKind.i64.wrap (1 + (Int.tmod s25.1 3))⟩ : T_api_Link)] HF246 Try.underlying42 ti56 rfl rfl rfl rfl ⟨[], [], [.int .i64 3, .int .i64 (shlI .i64 (IntKind.i64.wrap (201 + s25.1)) 8), .int .i64 4294967040, .int .i64 (IntKind.i64.wrap (1 + (Int.tmod s25.1 3)))], _, rfl, rfl, ⟨rfl, rfl⟩, ⟨rfl, rfl⟩⟩ rfl rfl) rfl ?_
   rintro _ w131 ⟨L138, A147, c401, rfl, HF247, ho120⟩
   replace H := chk H; obtain ⟨c402, H⟩ := H
   have HF248 := HF247.perm (perm_f pR)
   refine eW (oApp (xs := (rd s25.2 s25.1).f_Links) (ys := ([(⟨3, shlI .i64 (IntKind.i64.wrap (201 + s25.1)) 8, 4294967040, IntKind.i64.wrap (1 + (Int.tmod s25.1 3))⟩ : T_api_Link)])) k_T_api_Link HF248 rfl rfl Try.underlying42 Try.underlying42 ti56 rfl ho119 (srcR shrF ho120.rd HF248 (sub_a sub_h)) c402 rfl) rfl ?_
   rintro _ w132 ⟨L139, A148, c403, rfl, HF249, ho121⟩
   refine sL (ia rfl rfl Try.underlying24 ti44 c395 c396) rfl ?_
   refine sL (fa44_2 rfl) rfl ?_
   have HF250 := HF249.perm (perm_f (perm_f pR))
   have HF251 := HF250.perm (perm_f pR)
   refine eS (oStF HF251 hl18 ho121 rfl rfl ti42) ?_
   rintro w133 ⟨L140, HF252, ho122⟩
   refine lSet (i := 10) (v := .slice (some ⟨g51, o48, none⟩) (setI s25.2 s25.1 (⟨(rd s25.2 s25.1).f_Head, (rd s25.2 s25.1).f_Flags, ((rd s25.2 s25.1).f_Links ++ [(⟨3, shlI .i64 (IntKind.i64.wrap (201 + s25.1)) 8, 4294967040, IntKind.i64.wrap (1 + (Int.tmod s25.1 3))⟩ : T_api_Link)]), (rd s25.2 s25.1).f_Bits, (rd s25.2 s25.1).f_Routers, (rd s25.2 s25.1).f_Verts⟩ : T_api_Lsa)).length c293) rfl (by simp only [len_setI]) ?_
   refine lSet (i := 216) (v := .slice (some ⟨g51, o48, none⟩) (setI s25.2 s25.1 (⟨(rd s25.2 s25.1).f_Head, (rd s25.2 s25.1).f_Flags, ((rd s25.2 s25.1).f_Links ++ [(⟨3, shlI .i64 (IntKind.i64.wrap (201 + s25.1)) 8, 4294967040, IntKind.i64.wrap (1 + (Int.tmod s25.1 3))⟩ : T_api_Link)]), (rd s25.2 s25.1).f_Bits, (rd s25.2 s25.1).f_Routers, (rd s25.2 s25.1).f_Verts⟩ : T_api_Lsa)).length c293) rfl (by simp only [len_setI]) ?_
   refine lSet (i := 218) (v := .slice (some ⟨g51, o48, none⟩) (setI s25.2 s25.1 (⟨(rd s25.2 s25.1).f_Head, (rd s25.2 s25.1).f_Flags, ((rd s25.2 s25.1).f_Links ++ [(⟨3, shlI .i64 (IntKind.i64.wrap (201 + s25.1)) 8, 4294967040, IntKind.i64.wrap (1 + (Int.tmod s25.1 3))⟩ : T_api_Link)]), (rd s25.2 s25.1).f_Bits, (rd s25.2 s25.1).f_Routers, (rd s25.2 s25.1).f_Verts⟩ : T_api_Lsa)).length c293) rfl (by simp only [len_setI]) ?_
   refine lE ?_
   refine jN (kN (?_))
   refine hK150 _ _ ?_
   refine cRgn [] trivial ?_
   refine sL (mv rfl) rfl ?_
   refine sL (bAdd rfl rfl) rfl ?_
   refine sL (asg rfl) rfl ?_
   refine lE ?_
   refine kN (?_)
   have HF253 := HF252.sublist (sl_a (sl_da sR))
   exact ofEnv (fun a hE => ⟨_, (Option.some.inj H).symm, ⟨L140, hE.keep (Keep.cons rfl (Keep.cons rfl (Keep.cons rfl (Keep.cons rfl (Keep.nil))))), HF253, ho122⟩⟩)
  replace H := itF c394 H
  refine cSet (i := 213) rfl (dF c394) ?_
  refine cF rfl ?_
  refine cExit ?_
  refine kX (kX (jX (kN (?_))))
  exact ofEnv (fun a hE => ⟨_, (Option.some.inj H).symm, ⟨L135, hE.keep (Keep.cons rfl (Keep.cons rfl (Keep.cons rfl (Keep.cons rfl (Keep.nil))))), HF245, ho118⟩⟩)
 rintro s25 a w134 rfl ⟨L135, hE, HF254, ho118⟩
 replace H := Ho25
 refine go_k hE ?_
 refine kN (?_)
 refine hK140 _ _ ?_
 refine cSeq (fun K151 hK151 => ?_)
 refine cRgn [] trivial ?_
 refine sL (mv rfl) rfl ?_
 refine sL (asg rfl) rfl ?_
 refine lE ?_
 refine kN (?_)
 refine hK151 _ _ ?_
 refine cRet ?_
 obtain ⟨L141, L142, hL1, hsh1⟩ := OwnS.share ho118
 have HF255 := Fits.conv (L' := (L141 ++ (L142 ++ F))) HF254 (by rw [hL1]; simp only [List.append_assoc])
 have hs1 : G ⊆ L142 ++ G := sub_a sub_r
 obtain rfl := Option.some.inj H
 refine ret1 rfl rfl ?_
 exact ⟨L142, _, _, L141, rfl, HF255, (hsh1 sub_h)⟩
/-! ### cmp.isNaN[int] (function 60) -/
abbrev f_cmp_isNaN_int.R := Bool
noncomputable def f_cmp_isNaN_int (a0 : Int) : Option f_cmp_isNaN_int.R := some (!decide (a0 = a0))
set_option maxHeartbeats 1000000 in
theorem f_cmp_isNaN_int.ok {z w : World} {F : Hp} {a0 : Int} {r : f_cmp_isNaN_int.R} (H : f_cmp_isNaN_int a0 = some r) (HF : Fits z w F) :
  Calls Try.prog 60 [.int .i64 a0].toArray w fun e w' => e = .returned (.bool r) ∧ Fits z w' F := by
 unfold f_cmp_isNaN_int at H
 refine enter0 Try.func60 rfl Try.ntmps60 rfl (E := [(0, .int .i64 a0)]) rfl ?_
 refine cSeq (fun K1 hK1 => ?_)
 refine cRgn [] trivial ?_
 refine sL (asg rfl) rfl ?_
 refine lE ?_
 refine kN (?_)
 refine hK1 _ _ ?_
 refine cSeq (fun K2 hK2 => ?_)
 refine cRgn [] trivial ?_
 refine sL (mv rfl) rfl ?_
 refine sL (mv rfl) rfl ?_
 refine sL (bNeq rfl rfl) rfl ?_
 refine sL (asg rfl) rfl ?_
 refine lE ?_
 refine kN (?_)
 refine hK2 _ _ ?_
 refine cRet ?_
 obtain rfl := Option.some.inj H
 refine ret1 rfl rfl ?_
 exact ⟨rfl, HF⟩
/-! ### cmp.Compare[int] (function 41) -/
abbrev f_cmp_Compare_int.R := Int
noncomputable def f_cmp_Compare_int (a0 : Int) (a1 : Int) : Option f_cmp_Compare_int.R := ((f_cmp_isNaN_int a0).bind fun t1 => ((f_cmp_isNaN_int a1).bind fun t2 => (if t1 = true then (if t2 = true then some 0 else some (-1)) else (if t2 = true then some 1 else (if a0 < a1 then some (-1) else (if a1 < a0 then some 1 else some 0))))))
set_option maxHeartbeats 1000000 in
theorem f_cmp_Compare_int.ok {z w : World} {F : Hp} {a0 : Int} {a1 : Int} {r : f_cmp_Compare_int.R} (H : f_cmp_Compare_int a0 a1 = some r) (HF : Fits z w F) :
  Calls Try.prog 41 [.int .i64 a0, .int .i64 a1].toArray w fun e w' => e = .returned (.int .i64 r) ∧ Fits z w' F := by
 unfold f_cmp_Compare_int at H
 refine enter0 Try.func41 rfl Try.ntmps41 rfl (E := [(0, .int .i64 a0), (1, .int .i64 a1)]) rfl ?_
 refine cSeq (fun K1 hK1 => ?_)
 refine cRgn [] trivial ?_
 refine sL (asg rfl) rfl ?_
 refine lE ?_
 refine kN (?_)
 refine hK1 _ _ ?_
 refine cSeq (fun K2 hK2 => ?_)
 refine cRgn [] trivial ?_
 refine sL (mv rfl) rfl ?_
 replace H := bnd H; obtain ⟨t1, J1, H⟩ := H
 refine eCall isf60 rfl rfl rfl (f_cmp_isNaN_int.ok J1 HF) ?_
 rintro _ w1 ⟨rfl, HF1⟩
 refine ⟨_, rfl, ?_⟩
 refine sL (asg rfl) rfl ?_
 refine lE ?_
 refine kN (?_)
 refine hK2 _ _ ?_
 refine cSeq (fun K3 hK3 => ?_)
 refine cRgn [] trivial ?_
 refine sL (mv rfl) rfl ?_
 replace H := bnd H; obtain ⟨t2, J2, H⟩ := H
 refine eCall isf60 rfl rfl rfl (f_cmp_isNaN_int.ok J2 HF1) ?_
 rintro _ w2 ⟨rfl, HF2⟩
 refine ⟨_, rfl, ?_⟩
 refine sL (asg rfl) rfl ?_
 refine lE ?_
 refine kN (?_)
 refine hK3 _ _ ?_
 refine cSeq (fun K4 hK4 => ?_)
 refine cSeq (fun K5 hK5 => ?_)
 refine cRgn [] trivial ?_
 refine sL (mv rfl) rfl ?_
 refine lE ?_
 refine kN (?_)
 refine hK5 _ _ ?_
 by_cases c1 : t1 = true
 ·replace H := itT c1 H
  refine cSet (i := 11) rfl (vT c1) ?_
  refine cT rfl ?_
  refine cSeq (fun K6 hK6 => ?_)
  refine cSeq (fun K7 hK7 => ?_)
  refine cRgn [] trivial ?_
  refine sL (mv rfl) rfl ?_
  refine lE ?_
  refine kN (?_)
  refine hK7 _ _ ?_
  by_cases c2 : t2 = true
  ·replace H := itT c2 H
   refine cSet (i := 12) rfl (vT c2) ?_
   refine cT rfl ?_
   refine cSeq (fun K8 hK8 => ?_)
   refine cRgn [] trivial ?_
   refine sL (asg rfl) rfl ?_
   refine lE ?_
   refine kN (?_)
   refine hK8 _ _ ?_
   refine cRet ?_
   obtain rfl := Option.some.inj H
   refine kR (kR (?_))
   refine ret1 rfl rfl ?_
   exact ⟨rfl, HF2⟩
  replace H := itF c2 H
  refine cSet (i := 12) rfl (vF c2) ?_
  refine cF rfl ?_
  refine cSkip ?_
  refine kN (?_)
  refine hK6 _ _ ?_
  refine cSeq (fun K9 hK9 => ?_)
  refine cRgn [] trivial ?_
  refine sL (asg rfl) rfl ?_
  refine lE ?_
  refine kN (?_)
  refine hK9 _ _ ?_
  refine cRet ?_
  obtain rfl := Option.some.inj H
  refine kR (?_)
  refine ret1 rfl rfl ?_
  exact ⟨rfl, HF2⟩
 replace H := itF c1 H
 refine cSet (i := 11) rfl (vF c1) ?_
 refine cF rfl ?_
 refine cSkip ?_
 refine kN (?_)
 refine hK4 _ _ ?_
 refine cSeq (fun K10 hK10 => ?_)
 refine cSeq (fun K11 hK11 => ?_)
 refine cRgn [] trivial ?_
 refine sL (mv rfl) rfl ?_
 refine lE ?_
 refine kN (?_)
 refine hK11 _ _ ?_
 by_cases c3 : t2 = true
 ·replace H := itT c3 H
  refine cSet (i := 13) rfl (vT c3) ?_
  refine cT rfl ?_
  refine cSeq (fun K12 hK12 => ?_)
  refine cRgn [] trivial ?_
  refine sL (asg rfl) rfl ?_
  refine lE ?_
  refine kN (?_)
  refine hK12 _ _ ?_
  refine cRet ?_
  obtain rfl := Option.some.inj H
  refine kR (?_)
  refine ret1 rfl rfl ?_
  exact ⟨rfl, HF2⟩
 replace H := itF c3 H
 refine cSet (i := 13) rfl (vF c3) ?_
 refine cF rfl ?_
 refine cSkip ?_
 refine kN (?_)
 refine hK10 _ _ ?_
 refine cSeq (fun K13 hK13 => ?_)
 refine cSeq (fun K14 hK14 => ?_)
 refine cRgn [] trivial ?_
 refine sL (mv rfl) rfl ?_
 refine sL (mv rfl) rfl ?_
 refine sL (bLss rfl rfl) rfl ?_
 refine lE ?_
 refine kN (?_)
 refine hK14 _ _ ?_
 by_cases c4 : a0 < a1
 ·replace H := itT c4 H
  refine cSet (i := 16) rfl (dT c4) ?_
  refine cT rfl ?_
  refine cSeq (fun K15 hK15 => ?_)
  refine cRgn [] trivial ?_
  refine sL (asg rfl) rfl ?_
  refine lE ?_
  refine kN (?_)
  refine hK15 _ _ ?_
  refine cRet ?_
  obtain rfl := Option.some.inj H
  refine kR (?_)
  refine ret1 rfl rfl ?_
  exact ⟨rfl, HF2⟩
 replace H := itF c4 H
 refine cSet (i := 16) rfl (dF c4) ?_
 refine cF rfl ?_
 refine cSkip ?_
 refine kN (?_)
 refine hK13 _ _ ?_
 refine cSeq (fun K16 hK16 => ?_)
 refine cSeq (fun K17 hK17 => ?_)
 refine cRgn [] trivial ?_
 refine sL (mv rfl) rfl ?_
 refine sL (mv rfl) rfl ?_
 refine sL (bGtr rfl rfl) rfl ?_
 refine lE ?_
 refine kN (?_)
 refine hK17 _ _ ?_
 by_cases c5 : a1 < a0
 ·replace H := itT c5 H
  refine cSet (i := 19) rfl (dT c5) ?_
  refine cT rfl ?_
  refine cSeq (fun K18 hK18 => ?_)
  refine cRgn [] trivial ?_
  refine sL (asg rfl) rfl ?_
  refine lE ?_
  refine kN (?_)
  refine hK18 _ _ ?_
  refine cRet ?_
  obtain rfl := Option.some.inj H
  refine kR (?_)
  refine ret1 rfl rfl ?_
  exact ⟨rfl, HF2⟩
 replace H := itF c5 H
 refine cSet (i := 19) rfl (dF c5) ?_
 refine cF rfl ?_
 refine cSkip ?_
 refine kN (?_)
 refine hK16 _ _ ?_
 refine cSeq (fun K19 hK19 => ?_)
 refine cRgn [] trivial ?_
 refine sL (asg rfl) rfl ?_
 refine lE ?_
 refine kN (?_)
 refine hK19 _ _ ?_
 refine cRet ?_
 obtain rfl := Option.some.inj H
 refine ret1 rfl rfl ?_
 exact ⟨rfl, HF2⟩
/-! ### cmp.Or[int] (function 40) -/
abbrev f_cmp_Or_int.R := Int
noncomputable def f_cmp_Or_int.b0 (a0 : List Int) (s1 : Int) : Option (Sum (Int) (Sum (Int) f_cmp_Or_int.R)) := (if s1 < (a0.length : Int) then (if 0 ≤ s1 then (if (rd a0 s1) = 0 then some (.inl (IntKind.i64.wrap (s1 + 1))) else some (.inr (.inr (rd a0 s1)))) else none) else some (.inr (.inl s1)))
noncomputable def f_cmp_Or_int (a0 : List Int) : Option f_cmp_Or_int.R := ((loopO (f_cmp_Or_int.b0 a0) 0).bind fun y1 => match y1 with | .inl s1 => some 0 | .inr r_ => some r_)
set_option maxHeartbeats 1000000 in
theorem f_cmp_Or_int.ok {z w : World} {F G : Hp} (hG : G ⊆ F) {a0 : List Int} {A_a0 : Option Addr} {c_a0 : Nat} {X_a0 : Hp} {r : f_cmp_Or_int.R} (H : f_cmp_Or_int a0 = some r) (HF : Fits z w F) (hX_a0 : X_a0 ⊆ F) (hr_a0 : RdS (kInt .i64) X_a0 A_a0 c_a0 a0) :
  Calls Try.prog 40 [.slice A_a0 a0.length c_a0].toArray w fun e w' => e = .returned (.int .i64 r) ∧ Fits z w' F := by
 unfold f_cmp_Or_int at H
 refine enter0 Try.func40 rfl Try.ntmps40 rfl (E := [(0, .slice A_a0 a0.length c_a0)]) rfl ?_
 refine cSeq (fun K1 hK1 => ?_)
 refine cRgn [] trivial ?_
 refine sL (asg rfl) rfl ?_
 refine lE ?_
 refine kN (?_)
 refine hK1 _ _ ?_
 refine cSeq (fun K2 hK2 => ?_)
 refine cRgn [] trivial ?_
 refine sL (asg rfl) rfl ?_
 refine lE ?_
 refine kN (?_)
 refine hK2 _ _ ?_
 refine cSeq (fun K3 hK3 => ?_)
 refine cSeq (fun K4 hK4 => ?_)
 refine cRgn [] trivial ?_
 refine sL (mv rfl) rfl ?_
 refine sL (lnS rfl Try.underlying30) rfl ?_
 refine sL (mv rfl) rfl ?_
 refine lE ?_
 refine kN (?_)
 refine hK4 _ _ ?_
 replace H := bnd H; obtain ⟨y1, J1, Ho1⟩ := H
 refine cLoopB (f_cmp_Or_int.b0 a0) (fun (s1 : Int) a w => Env 18 [(2, .int .i64 0), (3, .int .i64 0), (6, .slice A_a0 a0.length c_a0), (7, .int .i64 (a0.length : Int)), (8, .int .i64 s1)] a ∧ Fits z w F) J1 (fun a hE => ⟨hE.keep (Keep.cons rfl (Keep.cons rfl (Keep.cons rfl (Keep.cons rfl (Keep.cons rfl (Keep.nil)))))), HF⟩) ?_ ?_
 ·rintro s1 a w1 y2 ⟨hE, HF1⟩ H Hx1
  refine go_ hE ?_
  refine cSeq (fun K17 hK17 => ?_)
  refine cRgn [] trivial ?_
  refine sL (bLss rfl rfl) rfl ?_
  refine lE ?_
  refine kN (?_)
  refine hK17 _ _ ?_
  refine cSeq (fun K18 hK18 => ?_)
  by_cases c6 : s1 < (a0.length : Int)
  ·replace H := itT c6 H
   refine cSet (i := 9) rfl (dT c6) ?_
   refine cT rfl ?_
   refine cSkip ?_
   refine kN (?_)
   refine hK18 _ _ ?_
   refine cSeq (fun K19 hK19 => ?_)
   refine cBlock ?_
   refine cSeq (fun K20 hK20 => ?_)
   refine cRgn [] trivial ?_
   replace H := chk H; obtain ⟨c7, H⟩ := H
   obtain ⟨g3, o3, _, rfl, rfl, q3⟩ := RdS.at_ hr_a0 c7 c6
   refine sL (ia rfl rfl Try.underlying30 ti3 c7 c6) rfl ?_
   refine sL (ld rfl Try.underlying3 rfl (HF1.cells (hX_a0) (q3 0 _ rfl))) rfl ?_
   refine sL (asg rfl) rfl ?_
   refine lE ?_
   refine kN (?_)
   refine hK20 _ _ ?_
   refine cSeq (fun K21 hK21 => ?_)
   refine cRgn [] trivial ?_
   refine sL (mv rfl) rfl ?_
   refine sL (mv rfl) rfl ?_
   refine sL (bNeq rfl rfl) rfl ?_
   refine lE ?_
   refine kN (?_)
   refine hK21 _ _ ?_
   by_cases c8 : (rd a0 s1) = 0
   ·replace H := itT c8 H
    refine cSet (i := 14) rfl (nF c8) ?_
    refine cF rfl ?_
    refine cSkip ?_
    refine jN (kN (?_))
    refine hK19 _ _ ?_
    refine cRgn [] trivial ?_
    refine sL (bAdd rfl rfl) rfl ?_
    refine sL (mv rfl) rfl ?_
    refine lE ?_
    refine kN (?_)
    exact ofEnv (fun a hE => ⟨_, (Option.some.inj H).symm, ⟨hE.keep (Keep.cons rfl (Keep.cons rfl (Keep.cons rfl (Keep.cons rfl (Keep.cons rfl (Keep.nil)))))), HF1⟩⟩)
   replace H := itF c8 H
   refine cSet (i := 14) rfl (nT c8) ?_
   refine cT rfl ?_
   refine cSeq (fun K22 hK22 => ?_)
   refine cRgn [] trivial ?_
   refine sL (mv rfl) rfl ?_
   refine sL (asg rfl) rfl ?_
   refine lE ?_
   refine kN (?_)
   refine hK22 _ _ ?_
   refine cRet ?_
   have e_ := Hx1 _ (Option.some.inj H).symm
   subst e_
   replace H := Ho1
   obtain rfl := Option.some.inj H
   refine jR (kR (kR (jR (kR (kR (?_))))))
   refine ret1 rfl rfl ?_
   exact ⟨rfl, HF1⟩
  replace H := itF c6 H
  refine cSet (i := 9) rfl (dF c6) ?_
  refine cF rfl ?_
  refine cExit ?_
  refine kX (kX (jX (kN (?_))))
  exact ofEnv (fun a hE => ⟨_, (Option.some.inj H).symm, ⟨hE.keep (Keep.cons rfl (Keep.cons rfl (Keep.cons rfl (Keep.cons rfl (Keep.cons rfl (Keep.nil)))))), HF1⟩⟩)
 rintro s1 a w2 rfl ⟨hE, HF2⟩
 replace H := Ho1
 refine go_k hE ?_
 refine kN (?_)
 refine hK3 _ _ ?_
 refine cSeq (fun K23 hK23 => ?_)
 refine cRgn [] trivial ?_
 refine sL (mv rfl) rfl ?_
 refine sL (asg rfl) rfl ?_
 refine lE ?_
 refine kN (?_)
 refine hK23 _ _ ?_
 refine cRet ?_
 obtain rfl := Option.some.inj H
 refine ret1 rfl rfl ?_
 exact ⟨rfl, HF2⟩
/-! ### plenum/topo.live$1 (function 49) -/
abbrev f_topo_live_1.R := Int
noncomputable def f_topo_live_1 (a0 : T_api_Lsa) (a1 : T_api_Lsa) : Option f_topo_live_1.R := ((f_cmp_Compare_int a0.f_Head.f_Id a1.f_Head.f_Id).bind fun t4 => ((f_cmp_Compare_int a0.f_Head.f_Adv a1.f_Head.f_Adv).bind fun t5 => ((f_cmp_Or_int ([t4, t5])).bind fun t6 => some t6)))
set_option maxHeartbeats 1000000 in
theorem f_topo_live_1.ok {z w : World} {F G : Hp} (hG : G ⊆ F) {a0 : T_api_Lsa} {A_a0_8 : Option Addr} {c_a0_8 : Nat} {X_a0_8 : Hp} {A_a0_10 : Option Addr} {c_a0_10 : Nat} {X_a0_10 : Hp} {A_a0_11 : Option Addr} {c_a0_11 : Nat} {X_a0_11 : Hp} {a1 : T_api_Lsa} {A_a1_8 : Option Addr} {c_a1_8 : Nat} {X_a1_8 : Hp} {A_a1_10 : Option Addr} {c_a1_10 : Nat} {X_a1_10 : Hp} {A_a1_11 : Option Addr} {c_a1_11 : Nat} {X_a1_11 : Hp} {r : f_topo_live_1.R} (H : f_topo_live_1 a0 a1 = some r) (HF : Fits z w F) (hX_a0_8 : X_a0_8 ⊆ F) (hr_a0_8 : RdS k_T_api_Link X_a0_8 A_a0_8 c_a0_8 a0.f_Links) (hX_a0_10 : X_a0_10 ⊆ F) (hr_a0_10 : RdS (kInt .i64) X_a0_10 A_a0_10 c_a0_10 a0.f_Routers) (hX_a0_11 : X_a0_11 ⊆ F) (hr_a0_11 : RdS k_T_api_Vert X_a0_11 A_a0_11 c_a0_11 a0.f_Verts) (hX_a1_8 : X_a1_8 ⊆ F) (hr_a1_8 : RdS k_T_api_Link X_a1_8 A_a1_8 c_a1_8 a1.f_Links) (hX_a1_10 : X_a1_10 ⊆ F) (hr_a1_10 : RdS (kInt .i64) X_a1_10 A_a1_10 c_a1_10 a1.f_Routers) (hX_a1_11 : X_a1_11 ⊆ F) (hr_a1_11 : RdS k_T_api_Vert X_a1_11 A_a1_11 c_a1_11 a1.f_Verts) :
  Calls Try.prog 49 [.agg [.int .i64 a0.f_Head.f_Age, .int .i64 a0.f_Head.f_Kind, .int .i64 a0.f_Head.f_Id, .int .i64 a0.f_Head.f_Adv, .int .i64 a0.f_Head.f_Seq, .int .i64 a0.f_Head.f_Sum, .int .i64 a0.f_Head.f_Len, .int .i64 a0.f_Flags, .slice A_a0_8 a0.f_Links.length c_a0_8, .int .i64 a0.f_Bits, .slice A_a0_10 a0.f_Routers.length c_a0_10, .slice A_a0_11 a0.f_Verts.length c_a0_11].toArray, .agg [.int .i64 a1.f_Head.f_Age, .int .i64 a1.f_Head.f_Kind, .int .i64 a1.f_Head.f_Id, .int .i64 a1.f_Head.f_Adv, .int .i64 a1.f_Head.f_Seq, .int .i64 a1.f_Head.f_Sum, .int .i64 a1.f_Head.f_Len, .int .i64 a1.f_Flags, .slice A_a1_8 a1.f_Links.length c_a1_8, .int .i64 a1.f_Bits, .slice A_a1_10 a1.f_Routers.length c_a1_10, .slice A_a1_11 a1.f_Verts.length c_a1_11].toArray].toArray w fun e w' => e = .returned (.int .i64 r) ∧ Fits z w' F := by
 unfold f_topo_live_1 at H
 refine enter0 Try.func49 rfl Try.ntmps49 rfl (E := [(0, .agg [.int .i64 a0.f_Head.f_Age, .int .i64 a0.f_Head.f_Kind, .int .i64 a0.f_Head.f_Id, .int .i64 a0.f_Head.f_Adv, .int .i64 a0.f_Head.f_Seq, .int .i64 a0.f_Head.f_Sum, .int .i64 a0.f_Head.f_Len, .int .i64 a0.f_Flags, .slice A_a0_8 a0.f_Links.length c_a0_8, .int .i64 a0.f_Bits, .slice A_a0_10 a0.f_Routers.length c_a0_10, .slice A_a0_11 a0.f_Verts.length c_a0_11].toArray), (1, .agg [.int .i64 a1.f_Head.f_Age, .int .i64 a1.f_Head.f_Kind, .int .i64 a1.f_Head.f_Id, .int .i64 a1.f_Head.f_Adv, .int .i64 a1.f_Head.f_Seq, .int .i64 a1.f_Head.f_Sum, .int .i64 a1.f_Head.f_Len, .int .i64 a1.f_Flags, .slice A_a1_8 a1.f_Links.length c_a1_8, .int .i64 a1.f_Bits, .slice A_a1_10 a1.f_Routers.length c_a1_10, .slice A_a1_11 a1.f_Verts.length c_a1_11].toArray)]) rfl ?_
 refine cSeq (fun K1 hK1 => ?_)
 refine cRgn [] trivial ?_
 refine eW (oBox HF rfl) rfl ?_
 rintro _ w1 ⟨g1, rfl, HF1⟩
 refine eW (oBox HF1 rfl) rfl ?_
 rintro _ w2 ⟨g2, rfl, HF2⟩
 refine sL (asg rfl) rfl ?_
 refine lE ?_
 refine kN (?_)
 refine hK1 _ _ ?_
 refine cSeq (fun K2 hK2 => ?_)
 refine cDraw mo_ HF2 rfl (fun w => Fits z w (bk g2 44 [.int .i64 a1.f_Head.f_Age, .int .i64 a1.f_Head.f_Kind, .int .i64 a1.f_Head.f_Id, .int .i64 a1.f_Head.f_Adv, .int .i64 a1.f_Head.f_Seq, .int .i64 a1.f_Head.f_Sum, .int .i64 a1.f_Head.f_Len, .int .i64 a1.f_Flags, .slice A_a1_8 a1.f_Links.length c_a1_8, .int .i64 a1.f_Bits, .slice A_a1_10 a1.f_Routers.length c_a1_10, .slice A_a1_11 a1.f_Verts.length c_a1_11] :: (bk g1 44 [.int .i64 a0.f_Head.f_Age, .int .i64 a0.f_Head.f_Kind, .int .i64 a0.f_Head.f_Id, .int .i64 a0.f_Head.f_Adv, .int .i64 a0.f_Head.f_Seq, .int .i64 a0.f_Head.f_Sum, .int .i64 a0.f_Head.f_Len, .int .i64 a0.f_Flags, .slice A_a0_8 a0.f_Links.length c_a0_8, .int .i64 a0.f_Bits, .slice A_a0_10 a0.f_Routers.length c_a0_10, .slice A_a0_11 a0.f_Verts.length c_a0_11] :: F))) (fun w7 HF9 => ?_)
 refine hT 0 rfl (by kernel_rfl) (fun w_ hS_ => fa44_0 rfl) HF9 rfl rfl ?_
 refine hT 1 rfl (by kernel_rfl) (fun w_ hS_ => fa41_2 rfl) HF9 rfl rfl ?_
 refine hT 2 rfl (by kernel_rfl) (fun w_ hS_ => ld rfl Try.underlying3 rfl (hS_.box (mem_c mem_h) rfl)) HF9 rfl rfl ?_
 refine hT 3 rfl (by kernel_rfl) (fun w_ hS_ => fa44_0 rfl) HF9 rfl rfl ?_
 refine hT 4 rfl (by kernel_rfl) (fun w_ hS_ => fa41_2 rfl) HF9 rfl rfl ?_
 refine hT 5 rfl (by kernel_rfl) (fun w_ hS_ => ld rfl Try.underlying3 rfl (hS_.box (mem_h) rfl)) HF9 rfl rfl ?_
 refine hT 7 rfl (by kernel_rfl) (fun w_ hS_ => fa44_0 rfl) HF9 rfl rfl ?_
 refine hT 8 rfl (by kernel_rfl) (fun w_ hS_ => fa41_3 rfl) HF9 rfl rfl ?_
 refine hT 9 rfl (by kernel_rfl) (fun w_ hS_ => ld rfl Try.underlying3 rfl (hS_.box (mem_c mem_h) rfl)) HF9 rfl rfl ?_
 refine hT 10 rfl (by kernel_rfl) (fun w_ hS_ => fa44_0 rfl) HF9 rfl rfl ?_
 refine hT 11 rfl (by kernel_rfl) (fun w_ hS_ => fa41_3 rfl) HF9 rfl rfl ?_
 refine hT 12 rfl (by kernel_rfl) (fun w_ hS_ => ld rfl Try.underlying3 rfl (hS_.box (mem_h) rfl)) HF9 rfl rfl ?_
 refine h1 6 (by kernel_rfl) rfl ?_
 replace H := bnd H; obtain ⟨t4, J4, H⟩ := H
 refine qCall rfl gd0 isf41 rfl rfl rfl (f_cmp_Compare_int.ok J4 HF9) ?_
 rintro _ w8 ⟨rfl, HF10⟩
 refine ⟨_, rfl, HF10, ?_⟩
 refine h1 13 (by kernel_rfl) rfl ?_
 replace H := bnd H; obtain ⟨t5, J5, H⟩ := H
 refine qCall rfl gd0 isf41 rfl rfl rfl (f_cmp_Compare_int.ok J5 HF10) ?_
 rintro _ w9 ⟨rfl, HF11⟩
 refine ⟨_, rfl, HF11, ?_⟩
 refine h1 14 (by kernel_rfl) rfl ?_
 refine qW rfl gd0 (oLit (r := [.int .i64 t4, .int .i64 t5]) (kInt .i64) [t4, t5] HF11 Try.underlying30 ti3 rfl rfl rfl rfl ⟨[], [], [.int .i64 t4], _, rfl, rfl, ⟨rfl, rfl⟩, ⟨[], [], [.int .i64 t5], _, rfl, rfl, ⟨rfl, rfl⟩, ⟨rfl, rfl⟩⟩⟩ rfl rfl) rfl ?_
 rintro _ w10 ⟨L2, A2, c2, rfl, HF12, ho2⟩
 have HF13 := HF12.sublist (sl_da (sl_c (sl_c sR)))
 refine ⟨HF13, ?_⟩
 refine h1 15 (by kernel_rfl) rfl ?_
 replace H := bnd H; obtain ⟨t6, J6, H⟩ := H
 refine qCall rfl gd0 isf40 rfl rfl rfl (f_cmp_Or_int.ok (a0 := [t4, t5]) (sub_a (sub_c (sub_c hG))) J6 HF12 sub_h ho2.rd) ?_
 rintro _ w11 ⟨rfl, HF14⟩
 have HF15 := HF14.sublist (sl_da (sl_c (sl_c sR)))
 refine ⟨_, rfl, HF15, ?_⟩
 refine hT 16 rfl (by kernel_rfl) (fun w_ hS_ => asg rfl) HF15 rfl rfl ?_
 refine hEnd (by kernel_rfl) ?_
 refine kN (?_)
 refine hK2 _ _ ?_
 refine cRet ?_
 obtain rfl := Option.some.inj H
 refine ret1 rfl rfl ?_
 have HF16 := HF14.sublist (sl_da (sl_dc (sl_dc sR)))
 exact ⟨rfl, HF16⟩
/-! ### slices.insertionSortCmpFunc[plenum/api.Lsa] (function 73) -/
abbrev f_slices_insertionSortCmpFunc_api_Lsa_fn49.R := List T_api_Lsa
noncomputable def f_slices_insertionSortCmpFunc_api_Lsa_fn49.b0 (a1 : Int) (s12 : Int × (List T_api_Lsa)) : Option (Sum (Int × (List T_api_Lsa)) (Sum (Int × (List T_api_Lsa)) f_slices_insertionSortCmpFunc_api_Lsa_fn49.R)) := ((((if a1 < s12.1 then (if 0 ≤ s12.1 then (if s12.1 < (s12.2.length : Int) then (if 0 ≤ (IntKind.i64.wrap (s12.1 - 1)) then (if (IntKind.i64.wrap (s12.1 - 1)) < (s12.2.length : Int) then ((f_topo_live_1 (rd s12.2 s12.1) (rd s12.2 (IntKind.i64.wrap (s12.1 - 1)))).bind fun t36 => some (.inl (decide (t36 < 0)))) else none) else none) else none) else none) else some (.inl false)) : Option (Sum (Bool) f_slices_insertionSortCmpFunc_api_Lsa_fn49.R))).bind fun y17 => match y17 with | .inl s13 => (if s13 = true then (if 0 ≤ (IntKind.i64.wrap (s12.1 - 1)) then (if (IntKind.i64.wrap (s12.1 - 1)) < (s12.2.length : Int) then (if 0 ≤ s12.1 then (if s12.1 < (s12.2.length : Int) then (if (IntKind.i64.wrap (s12.1 - 1)) < ((setI s12.2 s12.1 (rd s12.2 (IntKind.i64.wrap (s12.1 - 1)))).length : Int) then some (.inl (IntKind.i64.wrap (s12.1 - 1), setI (setI s12.2 s12.1 (rd s12.2 (IntKind.i64.wrap (s12.1 - 1)))) (IntKind.i64.wrap (s12.1 - 1)) (rd s12.2 s12.1))) else none) else none) else none) else none) else none) else some (.inr (.inl (s12.1, s12.2)))) | .inr r_ => some (.inr (.inr r_)))
noncomputable def f_slices_insertionSortCmpFunc_api_Lsa_fn49.b1 (a1 : Int) (a2 : Int) (s9 : Int × (List T_api_Lsa)) : Option (Sum (Int × (List T_api_Lsa)) (Sum (Int × (List T_api_Lsa)) f_slices_insertionSortCmpFunc_api_Lsa_fn49.R)) := (if s9.1 < a2 then ((loopO (f_slices_insertionSortCmpFunc_api_Lsa_fn49.b0 a1) (s9.1, s9.2)).bind fun y15 => match y15 with | .inl s12 => some (.inl (IntKind.i64.wrap (s9.1 + 1), s12.2)) | .inr r_ => some (.inr (.inr r_))) else some (.inr (.inl (s9.1, s9.2))))
noncomputable def f_slices_insertionSortCmpFunc_api_Lsa_fn49 (a0 : List T_api_Lsa) (a1 : Int) (a2 : Int) : Option f_slices_insertionSortCmpFunc_api_Lsa_fn49.R := ((loopO (f_slices_insertionSortCmpFunc_api_Lsa_fn49.b1 a1 a2) (IntKind.i64.wrap (a1 + 1), a0)).bind fun y11 => match y11 with | .inl s9 => some s9.2 | .inr r_ => some r_)
set_option maxHeartbeats 1000000 in
theorem f_slices_insertionSortCmpFunc_api_Lsa_fn49.ok {z w : World} {F G : Hp} (hG : G ⊆ F) {a0 : List T_api_Lsa} {A_a0 : Option Addr} {c_a0 : Nat} {L_a0 : Hp} {a1 : Int} {a2 : Int} {r : f_slices_insertionSortCmpFunc_api_Lsa_fn49.R} (H : f_slices_insertionSortCmpFunc_api_Lsa_fn49 a0 a1 a2 = some r) (HF : Fits z w (L_a0 ++ F)) (ho_a0 : OwnS (kShr G k_T_api_Lsa) L_a0 A_a0 c_a0 a0) :
  Calls Try.prog 73 [.slice A_a0 a0.length c_a0, .int .i64 a1, .int .i64 a2, .func (.func 49) [].toArray [].toArray].toArray w fun e w' => ∃ (N : Hp) (M0 : Hp), e = .returned (.tuple #[]) ∧ Fits z w' (M0 ++ (N ++ F)) ∧ OwnS (kShr (N ++ G) k_T_api_Lsa) M0 A_a0 c_a0 r := by
 unfold f_slices_insertionSortCmpFunc_api_Lsa_fn49 at H
 refine enter0 Try.func73 rfl Try.ntmps73 rfl (E := [(0, .slice A_a0 a0.length c_a0), (1, .int .i64 a1), (2, .int .i64 a2), (3, .func (.func 49) [].toArray [].toArray)]) rfl ?_
 refine cSeq (fun K1 hK1 => ?_)
 refine cRgn [] trivial ?_
 refine sL (mv rfl) rfl ?_
 refine sL (bAdd rfl rfl) rfl ?_
 refine sL (asg rfl) rfl ?_
 refine lE ?_
 refine kN (?_)
 refine hK1 _ _ ?_
 replace H := bnd H; obtain ⟨y11, J40, Ho9⟩ := H
 refine cLoopB (f_slices_insertionSortCmpFunc_api_Lsa_fn49.b1 a1 a2) (fun (s9 : Int × (List T_api_Lsa)) a w => ∃ (L30 : Hp), Env 53 [(0, .slice A_a0 s9.2.length c_a0), (1, .int .i64 a1), (2, .int .i64 a2), (3, .func (.func 49) [].toArray [].toArray), (8, .int .i64 s9.1)] a ∧ Fits z w (L30 ++ F) ∧ OwnS (kShr G k_T_api_Lsa) L30 A_a0 c_a0 s9.2) J40 (fun a hE => ⟨L_a0, hE.keep (Keep.cons rfl (Keep.cons rfl (Keep.cons rfl (Keep.cons rfl (Keep.cons rfl (Keep.nil)))))), HF, ho_a0⟩) ?_ ?_
 ·rintro s9 a w77 y12 ⟨L30, hE, HF95, ho30⟩ H Hx3
  refine go_ hE ?_
  refine cSeq (fun K28 hK28 => ?_)
  refine cSeq (fun K29 hK29 => ?_)
  refine cRgn [] trivial ?_
  refine sL (mv rfl) rfl ?_
  refine sL (mv rfl) rfl ?_
  refine sL (bLss rfl rfl) rfl ?_
  refine lE ?_
  refine kN (?_)
  refine hK29 _ _ ?_
  by_cases c477 : s9.1 < a2
  ·replace H := itT c477 H
   refine cSet (i := 14) rfl (dT c477) ?_
   refine cT rfl ?_
   refine cSkip ?_
   refine kN (?_)
   refine hK28 _ _ ?_
   refine cSeq (fun K30 hK30 => ?_)
   refine cBlock ?_
   refine cSeq (fun K31 hK31 => ?_)
   refine cRgn [] trivial ?_
   refine sL (mv rfl) rfl ?_
   refine sL (asg rfl) rfl ?_
   refine lE ?_
   refine kN (?_)
   refine hK31 _ _ ?_
   replace H := bnd H; obtain ⟨y15, J39, Ho12⟩ := H
   refine cLoopB (f_slices_insertionSortCmpFunc_api_Lsa_fn49.b0 a1) (fun (s12 : Int × (List T_api_Lsa)) a w => ∃ (L40 : Hp), Env 53 [(0, .slice A_a0 s12.2.length c_a0), (1, .int .i64 a1), (2, .int .i64 a2), (3, .func (.func 49) [].toArray [].toArray), (8, .int .i64 s9.1), (9, .int .i64 s12.1)] a ∧ Fits z w (L40 ++ F) ∧ OwnS (kShr G k_T_api_Lsa) L40 A_a0 c_a0 s12.2) J39 (fun a hE => ⟨L30, hE.keep (Keep.cons rfl (Keep.cons rfl (Keep.cons rfl (Keep.cons rfl (Keep.cons rfl (Keep.cons rfl (Keep.nil))))))), HF95, ho30⟩) ?_ ?_
   ·rintro s12 a w102 y16 ⟨L40, hE, HF126, ho40⟩ H Hx4
    refine go_ hE ?_
    refine cSeq (fun K38 hK38 => ?_)
    refine cSeq (fun K39 hK39 => ?_)
    replace H := bnd H; obtain ⟨y17, H, Ho13⟩ := H
    refine cJoin (y := y17) (fun (s13 : Bool) a w => Env 53 [(0, .slice A_a0 s12.2.length c_a0), (1, .int .i64 a1), (2, .int .i64 a2), (3, .func (.func 49) [].toArray [].toArray), (8, .int .i64 s9.1), (9, .int .i64 s12.1), (34, .bool s13)] a ∧ Fits z w (L40 ++ F)) ?_ ?_
    ·refine cDraw mo_ HF126 rfl (fun w => Fits z w (L40 ++ F)) (fun w107 HF131 => ?_)
     refine hT 0 rfl (by kernel_rfl) (fun w_ hS_ => mv rfl) HF131 rfl rfl ?_
     refine hT 1 rfl (by kernel_rfl) (fun w_ hS_ => mv rfl) HF131 rfl rfl ?_
     refine hT 2 rfl (by kernel_rfl) (fun w_ hS_ => bGtr rfl rfl) HF131 rfl rfl ?_
     refine hT 3 rfl (by kernel_rfl) (fun w_ hS_ => mv rfl) HF131 rfl rfl ?_
     by_cases c669 : a1 < s12.1
     ·replace H := itT c669 H
      refine hSet (i := 21) rfl (dT c669) ?_
      refine hTG 4 rfl rfl rfl (by kernel_rfl) (fun w_ hS_ => mv rfl) HF131 rfl rfl ?_
      refine hTG 5 rfl rfl rfl (by kernel_rfl) (fun w_ hS_ => mv rfl) HF131 rfl rfl ?_
      refine hTG 6 rfl rfl rfl (by kernel_rfl) (fun w_ hS_ => mv rfl) HF131 rfl rfl ?_
      replace H := chk H; obtain ⟨c670, H⟩ := H
      replace H := chk H; obtain ⟨c671, H⟩ := H
      obtain ⟨g52, o52, e270, rfl, hk135, q135⟩ := RdS.at_ ho40.rd c670 c671
      obtain ⟨A403, c672, A404, c673, A405, c674, rfl, hr403, hr404, hr405⟩ := rd_T_api_Lsa hk135
      refine hTG 7 rfl rfl rfl (by kernel_rfl) (fun w_ hS_ => ia rfl rfl Try.underlying24 ti44 c670 c671) HF131 rfl rfl ?_
      refine hTG 8 rfl rfl rfl (by kernel_rfl) (fun w_ hS_ => ldA rfl ti44 rfl rfl (fun j v hj => hS_.cells (sub_h) (q135 j v hj))) HF131 rfl rfl ?_
      refine hTG 9 rfl rfl rfl (by kernel_rfl) (fun w_ hS_ => mv rfl) HF131 rfl rfl ?_
      refine hTG 10 rfl rfl rfl (by kernel_rfl) (fun w_ hS_ => mv rfl) HF131 rfl rfl ?_
      refine hTG 11 rfl rfl rfl (by kernel_rfl) (fun w_ hS_ => bSub rfl rfl) HF131 rfl rfl ?_
      replace H := chk H; obtain ⟨c675, H⟩ := H
      replace H := chk H; obtain ⟨c676, H⟩ := H
      obtain ⟨e272, hk136, q136⟩ := RdS.at' ho40.rd c675 c676
      obtain ⟨A406, c677, A407, c678, A408, c679, rfl, hr406, hr407, hr408⟩ := rd_T_api_Lsa hk136
      refine hTG 12 rfl rfl rfl (by kernel_rfl) (fun w_ hS_ => ia rfl rfl Try.underlying24 ti44 c675 c676) HF131 rfl rfl ?_
      refine hTG 13 rfl rfl rfl (by kernel_rfl) (fun w_ hS_ => ldA rfl ti44 rfl rfl (fun j v hj => hS_.cells (sub_h) (q136 j v hj))) HF131 rfl rfl ?_
      refine h1 14 (by kernel_rfl) rfl ?_
      replace H := bnd H; obtain ⟨t36, J38, H⟩ := H
      refine qCall rfl (gd1 rfl rfl) isf49 rfl rfl rfl (f_topo_live_1.ok (a0 := (rd s12.2 s12.1)) (a1 := (rd s12.2 (IntKind.i64.wrap (s12.1 - 1)))) (sub_a hG) J38 HF131 (sub_a hG) hr403 (sub_a hG) hr404 (sub_a hG) hr405 (sub_a hG) hr406 (sub_a hG) hr407 (sub_a hG) hr408) ?_
      rintro _ w108 ⟨rfl, HF132⟩
      refine ⟨_, rfl, HF132, ?_⟩
      refine hTG 15 rfl rfl rfl (by kernel_rfl) (fun w_ hS_ => bLss rfl rfl) HF132 rfl rfl ?_
      refine hT 16 rfl (by kernel_rfl) (fun w_ hS_ => pkT rfl rfl) HF132 rfl rfl ?_
      refine hEnd (by kernel_rfl) ?_
      refine kN (?_)
      exact ofEnv (fun a hE => ⟨_, (Option.some.inj H).symm, ⟨hE.keep (Keep.cons rfl (Keep.cons rfl (Keep.cons rfl (Keep.cons rfl (Keep.cons rfl (Keep.cons rfl (Keep.cons rfl (Keep.nil)))))))), HF132⟩⟩)
     replace H := itF c669 H
     refine hSet (i := 21) rfl (dF c669) ?_
     refine hTN 4 rfl rfl rfl (by kernel_rfl) HF131 rfl rfl ?_
     refine hTN 5 rfl rfl rfl (by kernel_rfl) HF131 rfl rfl ?_
     refine hTN 6 rfl rfl rfl (by kernel_rfl) HF131 rfl rfl ?_
     refine hTN 7 rfl rfl rfl (by kernel_rfl) HF131 rfl rfl ?_
     refine hTN 8 rfl rfl rfl (by kernel_rfl) HF131 rfl rfl ?_
     refine hTN 9 rfl rfl rfl (by kernel_rfl) HF131 rfl rfl ?_
     refine hTN 10 rfl rfl rfl (by kernel_rfl) HF131 rfl rfl ?_
     refine hTN 11 rfl rfl rfl (by kernel_rfl) HF131 rfl rfl ?_
     refine hTN 12 rfl rfl rfl (by kernel_rfl) HF131 rfl rfl ?_
     refine hTN 13 rfl rfl rfl (by kernel_rfl) HF131 rfl rfl ?_
     refine hTN 14 rfl rfl rfl (by kernel_rfl) HF131 rfl rfl ?_
     refine hTN 15 rfl rfl rfl (by kernel_rfl) HF131 rfl rfl ?_
     refine hT 16 rfl (by kernel_rfl) (fun w_ hS_ => pkF rfl rfl) HF131 rfl rfl ?_
     refine hEnd (by kernel_rfl) ?_
     refine kN (?_)
     exact ofEnv (fun a hE => ⟨_, (Option.some.inj H).symm, ⟨hE.keep (Keep.cons rfl (Keep.cons rfl (Keep.cons rfl (Keep.cons rfl (Keep.cons rfl (Keep.cons rfl (Keep.cons rfl (Keep.nil)))))))), HF131⟩⟩)
    rintro s13 a w109 rfl ⟨hE, HF133⟩
    replace H := Ho13
    refine go_k hE ?_
    refine kN (?_)
    refine hK39 _ _ ?_
    by_cases c680 : s13 = true
    ·replace H := itT c680 H
     refine cSet (i := 34) rfl (vT c680) ?_
     refine cT rfl ?_
     refine cSkip ?_
     refine kN (?_)
     refine hK38 _ _ ?_
     refine cSeq (fun K40 hK40 => ?_)
     refine cBlock ?_
     refine cDraw mo_ HF133 rfl (fun w => Fits z w F) (fun w112 HF136 => ?_)
     have HF137 := HF136.sublist (sl_da sR)
     refine hT 0 rfl (by kernel_rfl) (fun w_ hS_ => mv rfl) HF137 rfl rfl ?_
     refine hT 1 rfl (by kernel_rfl) (fun w_ hS_ => mv rfl) HF137 rfl rfl ?_
     refine hT 2 rfl (by kernel_rfl) (fun w_ hS_ => mv rfl) HF137 rfl rfl ?_
     refine hT 3 rfl (by kernel_rfl) (fun w_ hS_ => mv rfl) HF137 rfl rfl ?_
     refine hT 4 rfl (by kernel_rfl) (fun w_ hS_ => bSub rfl rfl) HF137 rfl rfl ?_
     refine hT 5 rfl (by kernel_rfl) (fun w_ hS_ => mv rfl) HF137 rfl rfl ?_
     refine hT 6 rfl (by kernel_rfl) (fun w_ hS_ => mv rfl) HF137 rfl rfl ?_
     refine hT 7 rfl (by kernel_rfl) (fun w_ hS_ => bSub rfl rfl) HF137 rfl rfl ?_
     replace H := chk H; obtain ⟨c698, H⟩ := H
     replace H := chk H; obtain ⟨c699, H⟩ := H
     obtain ⟨g54, o54, e282, rfl, hk141, q141⟩ := RdS.at_ ho40.rd c698 c699
     obtain ⟨A421, c700, A422, c701, A423, c702, rfl, hr421, hr422, hr423⟩ := rd_T_api_Lsa hk141
     refine hT 8 rfl (by kernel_rfl) (fun w_ hS_ => ia rfl rfl Try.underlying24 ti44 c698 c699) HF137 rfl rfl ?_
     refine hT 10 rfl (by kernel_rfl) (fun w_ hS_ => mv rfl) HF137 rfl rfl ?_
     refine hT 11 rfl (by kernel_rfl) (fun w_ hS_ => mv rfl) HF137 rfl rfl ?_
     replace H := chk H; obtain ⟨c703, H⟩ := H
     replace H := chk H; obtain ⟨c704, H⟩ := H
     obtain ⟨e284, hk142, q142⟩ := RdS.at' ho40.rd c703 c704
     obtain ⟨A424, c705, A425, c706, A426, c707, rfl, hr424, hr425, hr426⟩ := rd_T_api_Lsa hk142
     refine hT 12 rfl (by kernel_rfl) (fun w_ hS_ => ia rfl rfl Try.underlying24 ti44 c703 c704) HF137 rfl rfl ?_
     refine h2 9 13 (by kernel_rfl) rfl rfl ?_ ?_
     ·refine qL rfl gd0 (ldA rfl ti44 rfl rfl (fun j v hj => HF136.cells (sub_h) (q141 j v hj))) rfl HF137 ?_
      refine h1 13 (by kernel_rfl) rfl ?_
      refine qL rfl gd0 (ldA rfl ti44 rfl rfl (fun j v hj => HF136.cells (sub_h) (q142 j v hj))) rfl HF137 ?_
      obtain ⟨e286, hk143, q143⟩ := RdS.at' ho40.rd c703 c704
      obtain ⟨A427, c708, A428, c709, A429, c710, rfl, hr427, hr428, hr429⟩ := rd_T_api_Lsa hk143
      refine hT 14 rfl (by kernel_rfl) (fun w_ hS_ => ia rfl rfl Try.underlying24 ti44 c703 c704) HF137 rfl rfl ?_
      refine h1 15 (by kernel_rfl) rfl ?_
      refine qS rfl gd0 (oStE (K := (kShr G k_T_api_Lsa)) (c := c_a0) (off := 0) (y' := (rd s12.2 (IntKind.i64.wrap (s12.1 - 1)))) shrS HF136 ho40 c703 c704 rfl rfl ti44 rfl (ones rfl) (Nat.le_of_ble_eq_true rfl) (fun ci hci => shrAll hci rfl (mk_T_api_Lsa (x := (rd s12.2 (IntKind.i64.wrap (s12.1 - 1)))) (hr421) (hr422) (hr423)))) ?_
      rintro w113 ⟨L43, HF138, ho43⟩
      have HF139 := HF138.sublist (sl_da sR)
      refine ⟨HF139, ?_⟩
      refine hSet (i := 0) (v := .slice (some ⟨g54, o54, none⟩) (setI s12.2 s12.1 (rd s12.2 (IntKind.i64.wrap (s12.1 - 1)))).length c_a0) rfl (by simp only [len_setI]) ?_
      refine hSet (i := 37) (v := .slice (some ⟨g54, o54, none⟩) (setI s12.2 s12.1 (rd s12.2 (IntKind.i64.wrap (s12.1 - 1)))).length c_a0) rfl (by simp only [len_setI]) ?_
      refine hSet (i := 39) (v := .slice (some ⟨g54, o54, none⟩) (setI s12.2 s12.1 (rd s12.2 (IntKind.i64.wrap (s12.1 - 1)))).length c_a0) rfl (by simp only [len_setI]) ?_
      refine hSet (i := 42) (v := .slice (some ⟨g54, o54, none⟩) (setI s12.2 s12.1 (rd s12.2 (IntKind.i64.wrap (s12.1 - 1)))).length c_a0) rfl (by simp only [len_setI]) ?_
      refine hSet (i := 47) (v := .slice (some ⟨g54, o54, none⟩) (setI s12.2 s12.1 (rd s12.2 (IntKind.i64.wrap (s12.1 - 1)))).length c_a0) rfl (by simp only [len_setI]) ?_
      replace H := chk H; obtain ⟨c711, H⟩ := H
      obtain ⟨e288, hk144, q144⟩ := RdS.at' ho43.rd c698 c711
      obtain ⟨A430, c712, A431, c713, A432, c714, rfl, hr430, hr431, hr432⟩ := rd_T_api_Lsa hk144
      refine hT 16 rfl (by kernel_rfl) (fun w_ hS_ => ia rfl rfl Try.underlying24 ti44 c698 c711) HF139 rfl rfl ?_
      refine h1 17 (by kernel_rfl) rfl ?_
      refine qS rfl gd0 (oStE (K := (kShr G k_T_api_Lsa)) (c := c_a0) (off := 0) (y' := (rd s12.2 s12.1)) shrS HF138 ho43 c698 c711 rfl rfl ti44 rfl (ones rfl) (Nat.le_of_ble_eq_true rfl) (fun ci hci => shrAll hci rfl (mk_T_api_Lsa (x := (rd s12.2 s12.1)) (hr424) (hr425) (hr426)))) ?_
      rintro w114 ⟨L44, HF140, ho44⟩
      have HF141 := HF140.sublist (sl_da sR)
      refine ⟨HF141, ?_⟩
      refine hSet (i := 0) (v := .slice (some ⟨g54, o54, none⟩) (setI (setI s12.2 s12.1 (rd s12.2 (IntKind.i64.wrap (s12.1 - 1)))) (IntKind.i64.wrap (s12.1 - 1)) (rd s12.2 s12.1)).length c_a0) rfl (by simp only [len_setI]) ?_
      refine hSet (i := 37) (v := .slice (some ⟨g54, o54, none⟩) (setI (setI s12.2 s12.1 (rd s12.2 (IntKind.i64.wrap (s12.1 - 1)))) (IntKind.i64.wrap (s12.1 - 1)) (rd s12.2 s12.1)).length c_a0) rfl (by simp only [len_setI]) ?_
      refine hSet (i := 39) (v := .slice (some ⟨g54, o54, none⟩) (setI (setI s12.2 s12.1 (rd s12.2 (IntKind.i64.wrap (s12.1 - 1)))) (IntKind.i64.wrap (s12.1 - 1)) (rd s12.2 s12.1)).length c_a0) rfl (by simp only [len_setI]) ?_
      refine hSet (i := 42) (v := .slice (some ⟨g54, o54, none⟩) (setI (setI s12.2 s12.1 (rd s12.2 (IntKind.i64.wrap (s12.1 - 1)))) (IntKind.i64.wrap (s12.1 - 1)) (rd s12.2 s12.1)).length c_a0) rfl (by simp only [len_setI]) ?_
      refine hSet (i := 47) (v := .slice (some ⟨g54, o54, none⟩) (setI (setI s12.2 s12.1 (rd s12.2 (IntKind.i64.wrap (s12.1 - 1)))) (IntKind.i64.wrap (s12.1 - 1)) (rd s12.2 s12.1)).length c_a0) rfl (by simp only [len_setI]) ?_
      refine hEnd (by kernel_rfl) ?_
      refine jN (kN (?_))
      refine hK40 _ _ ?_
      refine cRgn [] trivial ?_
      refine sL (mv rfl) rfl ?_
      refine sL (bSub rfl rfl) rfl ?_
      refine sL (asg rfl) rfl ?_
      refine lE ?_
      refine kN (?_)
      exact ofEnv (fun a hE => ⟨_, (Option.some.inj H).symm, ⟨L44, hE.keep (Keep.cons rfl (Keep.cons rfl (Keep.cons rfl (Keep.cons rfl (Keep.cons rfl (Keep.cons rfl (Keep.nil))))))), HF140, ho44⟩⟩)
     refine qL rfl gd0 (ldA rfl ti44 rfl rfl (fun j v hj => HF136.cells (sub_h) (q142 j v hj))) rfl HF137 ?_
     refine h1 9 (by kernel_rfl) rfl ?_
     refine qL rfl gd0 (ldA rfl ti44 rfl rfl (fun j v hj => HF136.cells (sub_h) (q141 j v hj))) rfl HF137 ?_
     obtain ⟨e286, hk143, q143⟩ := RdS.at' ho40.rd c703 c704
     obtain ⟨A427, c708, A428, c709, A429, c710, rfl, hr427, hr428, hr429⟩ := rd_T_api_Lsa hk143
     refine hT 14 rfl (by kernel_rfl) (fun w_ hS_ => ia rfl rfl Try.underlying24 ti44 c703 c704) HF137 rfl rfl ?_
     refine h1 15 (by kernel_rfl) rfl ?_
     refine qS rfl gd0 (oStE (K := (kShr G k_T_api_Lsa)) (c := c_a0) (off := 0) (y' := (rd s12.2 (IntKind.i64.wrap (s12.1 - 1)))) shrS HF136 ho40 c703 c704 rfl rfl ti44 rfl (ones rfl) (Nat.le_of_ble_eq_true rfl) (fun ci hci => shrAll hci rfl (mk_T_api_Lsa (x := (rd s12.2 (IntKind.i64.wrap (s12.1 - 1)))) (hr421) (hr422) (hr423)))) ?_
     rintro w113 ⟨L43, HF138, ho43⟩
     have HF139 := HF138.sublist (sl_da sR)
     refine ⟨HF139, ?_⟩
     refine hSet (i := 0) (v := .slice (some ⟨g54, o54, none⟩) (setI s12.2 s12.1 (rd s12.2 (IntKind.i64.wrap (s12.1 - 1)))).length c_a0) rfl (by simp only [len_setI]) ?_
     refine hSet (i := 37) (v := .slice (some ⟨g54, o54, none⟩) (setI s12.2 s12.1 (rd s12.2 (IntKind.i64.wrap (s12.1 - 1)))).length c_a0) rfl (by simp only [len_setI]) ?_
     refine hSet (i := 39) (v := .slice (some ⟨g54, o54, none⟩) (setI s12.2 s12.1 (rd s12.2 (IntKind.i64.wrap (s12.1 - 1)))).length c_a0) rfl (by simp only [len_setI]) ?_
     refine hSet (i := 42) (v := .slice (some ⟨g54, o54, none⟩) (setI s12.2 s12.1 (rd s12.2 (IntKind.i64.wrap (s12.1 - 1)))).length c_a0) rfl (by simp only [len_setI]) ?_
     refine hSet (i := 47) (v := .slice (some ⟨g54, o54, none⟩) (setI s12.2 s12.1 (rd s12.2 (IntKind.i64.wrap (s12.1 - 1)))).length c_a0) rfl (by simp only [len_setI]) ?_
     replace H := chk H; obtain ⟨c711, H⟩ := H
     obtain ⟨e288, hk144, q144⟩ := RdS.at' ho43.rd c698 c711
     obtain ⟨A430, c712, A431, c713, A432, c714, rfl, hr430, hr431, hr432⟩ := rd_T_api_Lsa hk144
     refine hT 16 rfl (by kernel_rfl) (fun w_ hS_ => ia rfl rfl Try.underlying24 ti44 c698 c711) HF139 rfl rfl ?_
     refine h1 17 (by kernel_rfl) rfl ?_
     refine qS rfl gd0 (oStE (K := (kShr G k_T_api_Lsa)) (c := c_a0) (off := 0) (y' := (rd s12.2 s12.1)) shrS HF138 ho43 c698 c711 rfl rfl ti44 rfl (ones rfl) (Nat.le_of_ble_eq_true rfl) (fun ci hci => shrAll hci rfl (mk_T_api_Lsa (x := (rd s12.2 s12.1)) (hr424) (hr425) (hr426)))) ?_
     rintro w114 ⟨L44, HF140, ho44⟩
     have HF141 := HF140.sublist (sl_da sR)
     refine ⟨HF141, ?_⟩
     refine hSet (i := 0) (v := .slice (some ⟨g54, o54, none⟩) (setI (setI s12.2 s12.1 (rd s12.2 (IntKind.i64.wrap (s12.1 - 1)))) (IntKind.i64.wrap (s12.1 - 1)) (rd s12.2 s12.1)).length c_a0) rfl (by simp only [len_setI]) ?_
     refine hSet (i := 37) (v := .slice (some ⟨g54, o54, none⟩) (setI (setI s12.2 s12.1 (rd s12.2 (IntKind.i64.wrap (s12.1 - 1)))) (IntKind.i64.wrap (s12.1 - 1)) (rd s12.2 s12.1)).length c_a0) rfl (by simp only [len_setI]) ?_
     refine hSet (i := 39) (v := .slice (some ⟨g54, o54, none⟩) (setI (setI s12.2 s12.1 (rd s12.2 (IntKind.i64.wrap (s12.1 - 1)))) (IntKind.i64.wrap (s12.1 - 1)) (rd s12.2 s12.1)).length c_a0) rfl (by simp only [len_setI]) ?_
     refine hSet (i := 42) (v := .slice (some ⟨g54, o54, none⟩) (setI (setI s12.2 s12.1 (rd s12.2 (IntKind.i64.wrap (s12.1 - 1)))) (IntKind.i64.wrap (s12.1 - 1)) (rd s12.2 s12.1)).length c_a0) rfl (by simp only [len_setI]) ?_
     refine hSet (i := 47) (v := .slice (some ⟨g54, o54, none⟩) (setI (setI s12.2 s12.1 (rd s12.2 (IntKind.i64.wrap (s12.1 - 1)))) (IntKind.i64.wrap (s12.1 - 1)) (rd s12.2 s12.1)).length c_a0) rfl (by simp only [len_setI]) ?_
     refine hEnd (by kernel_rfl) ?_
     refine jN (kN (?_))
     refine hK40 _ _ ?_
     refine cRgn [] trivial ?_
     refine sL (mv rfl) rfl ?_
     refine sL (bSub rfl rfl) rfl ?_
     refine sL (asg rfl) rfl ?_
     refine lE ?_
     refine kN (?_)
     exact ofEnv (fun a hE => ⟨_, (Option.some.inj H).symm, ⟨L44, hE.keep (Keep.cons rfl (Keep.cons rfl (Keep.cons rfl (Keep.cons rfl (Keep.cons rfl (Keep.cons rfl (Keep.nil))))))), HF140, ho44⟩⟩)
    replace H := itF c680 H
    refine cSet (i := 34) rfl (vF c680) ?_
    refine cF rfl ?_
    refine cExit ?_
    refine kX (kX (jX (kN (?_))))
    exact ofEnv (fun a hE => ⟨_, (Option.some.inj H).symm, ⟨L40, hE.keep (Keep.cons rfl (Keep.cons rfl (Keep.cons rfl (Keep.cons rfl (Keep.cons rfl (Keep.cons rfl (Keep.nil))))))), HF133, ho40⟩⟩)
   rintro s12 a w115 rfl ⟨L40, hE, HF142, ho40⟩
   replace H := Ho12
   refine go_k hE ?_
   refine jN (kN (?_))
   refine hK30 _ _ ?_
   refine cRgn [] trivial ?_
   refine sL (mv rfl) rfl ?_
   refine sL (bAdd rfl rfl) rfl ?_
   refine sL (asg rfl) rfl ?_
   refine lE ?_
   refine kN (?_)
   exact ofEnv (fun a hE => ⟨_, (Option.some.inj H).symm, ⟨L40, hE.keep (Keep.cons rfl (Keep.cons rfl (Keep.cons rfl (Keep.cons rfl (Keep.cons rfl (Keep.nil)))))), HF142, ho40⟩⟩)
  replace H := itF c477 H
  refine cSet (i := 14) rfl (dF c477) ?_
  refine cF rfl ?_
  refine cExit ?_
  refine kX (kX (jX (kN (?_))))
  exact ofEnv (fun a hE => ⟨_, (Option.some.inj H).symm, ⟨L30, hE.keep (Keep.cons rfl (Keep.cons rfl (Keep.cons rfl (Keep.cons rfl (Keep.cons rfl (Keep.nil)))))), HF95, ho30⟩⟩)
 rintro s9 a w116 rfl ⟨L30, hE, HF143, ho30⟩
 replace H := Ho9
 refine go_k hE ?_
 obtain rfl := Option.some.inj H
 refine end0 rfl ?_
 exact ⟨[], L30, rfl, HF143, ho30⟩
/-! ### slices.swapRangeCmpFunc[plenum/api.Lsa] (function 82) -/
abbrev f_slices_swapRangeCmpFunc_api_Lsa_fn49.R := List T_api_Lsa
noncomputable def f_slices_swapRangeCmpFunc_api_Lsa_fn49.b0 (a1 : Int) (a2 : Int) (a3 : Int) (s1 : Int × (List T_api_Lsa)) : Option (Sum (Int × (List T_api_Lsa)) (Sum (Int × (List T_api_Lsa)) f_slices_swapRangeCmpFunc_api_Lsa_fn49.R)) := (if s1.1 < a3 then (if 0 ≤ (IntKind.i64.wrap (a2 + s1.1)) then (if (IntKind.i64.wrap (a2 + s1.1)) < (s1.2.length : Int) then (if 0 ≤ (IntKind.i64.wrap (a1 + s1.1)) then (if (IntKind.i64.wrap (a1 + s1.1)) < (s1.2.length : Int) then (if (IntKind.i64.wrap (a2 + s1.1)) < ((setI s1.2 (IntKind.i64.wrap (a1 + s1.1)) (rd s1.2 (IntKind.i64.wrap (a2 + s1.1)))).length : Int) then some (.inl (IntKind.i64.wrap (s1.1 + 1), setI (setI s1.2 (IntKind.i64.wrap (a1 + s1.1)) (rd s1.2 (IntKind.i64.wrap (a2 + s1.1)))) (IntKind.i64.wrap (a2 + s1.1)) (rd s1.2 (IntKind.i64.wrap (a1 + s1.1))))) else none) else none) else none) else none) else none) else some (.inr (.inl (s1.1, s1.2))))
noncomputable def f_slices_swapRangeCmpFunc_api_Lsa_fn49 (a0 : List T_api_Lsa) (a1 : Int) (a2 : Int) (a3 : Int) : Option f_slices_swapRangeCmpFunc_api_Lsa_fn49.R := ((loopO (f_slices_swapRangeCmpFunc_api_Lsa_fn49.b0 a1 a2 a3) (0, a0)).bind fun y1 => match y1 with | .inl s1 => some s1.2 | .inr r_ => some r_)
set_option maxHeartbeats 1000000 in
theorem f_slices_swapRangeCmpFunc_api_Lsa_fn49.ok {z w : World} {F G : Hp} (hG : G ⊆ F) {a0 : List T_api_Lsa} {A_a0 : Option Addr} {c_a0 : Nat} {L_a0 : Hp} {a1 : Int} {a2 : Int} {a3 : Int} {r : f_slices_swapRangeCmpFunc_api_Lsa_fn49.R} (H : f_slices_swapRangeCmpFunc_api_Lsa_fn49 a0 a1 a2 a3 = some r) (HF : Fits z w (L_a0 ++ F)) (ho_a0 : OwnS (kShr G k_T_api_Lsa) L_a0 A_a0 c_a0 a0) :
  Calls Try.prog 82 [.slice A_a0 a0.length c_a0, .int .i64 a1, .int .i64 a2, .int .i64 a3, .func (.func 49) [].toArray [].toArray].toArray w fun e w' => ∃ (N : Hp) (M0 : Hp), e = .returned (.tuple #[]) ∧ Fits z w' (M0 ++ (N ++ F)) ∧ OwnS (kShr (N ++ G) k_T_api_Lsa) M0 A_a0 c_a0 r := by
 unfold f_slices_swapRangeCmpFunc_api_Lsa_fn49 at H
 refine enter0 Try.func82 rfl Try.ntmps82 rfl (E := [(0, .slice A_a0 a0.length c_a0), (1, .int .i64 a1), (2, .int .i64 a2), (3, .int .i64 a3), (4, .func (.func 49) [].toArray [].toArray)]) rfl ?_
 refine cSeq (fun K1 hK1 => ?_)
 refine cRgn [] trivial ?_
 refine sL (asg rfl) rfl ?_
 refine lE ?_
 refine kN (?_)
 refine hK1 _ _ ?_
 replace H := bnd H; obtain ⟨y1, J1, Ho1⟩ := H
 refine cLoopB (f_slices_swapRangeCmpFunc_api_Lsa_fn49.b0 a1 a2 a3) (fun (s1 : Int × (List T_api_Lsa)) a w => ∃ (L10 : Hp), Env 38 [(0, .slice A_a0 s1.2.length c_a0), (1, .int .i64 a1), (2, .int .i64 a2), (3, .int .i64 a3), (10, .int .i64 s1.1)] a ∧ Fits z w (L10 ++ F) ∧ OwnS (kShr G k_T_api_Lsa) L10 A_a0 c_a0 s1.2) J1 (fun a hE => ⟨L_a0, hE.keep (Keep.cons rfl (Keep.cons rfl (Keep.cons rfl (Keep.cons rfl (Keep.cons rfl (Keep.nil)))))), HF, ho_a0⟩) ?_ ?_
 ·rintro s1 a w11 y2 ⟨L10, hE, HF17, ho10⟩ H Hx1
  refine go_ hE ?_
  refine cSeq (fun K8 hK8 => ?_)
  refine cSeq (fun K9 hK9 => ?_)
  refine cRgn [] trivial ?_
  refine sL (mv rfl) rfl ?_
  refine sL (mv rfl) rfl ?_
  refine sL (bLss rfl rfl) rfl ?_
  refine lE ?_
  refine kN (?_)
  refine hK9 _ _ ?_
  by_cases c71 : s1.1 < a3
  ·replace H := itT c71 H
   refine cSet (i := 13) rfl (dT c71) ?_
   refine cT rfl ?_
   refine cSkip ?_
   refine kN (?_)
   refine hK8 _ _ ?_
   refine cSeq (fun K10 hK10 => ?_)
   refine cBlock ?_
   refine cDraw mo_ HF17 rfl (fun w => Fits z w F) (fun w14 HF20 => ?_)
   have HF21 := HF20.sublist (sl_da sR)
   refine hT 0 rfl (by kernel_rfl) (fun w_ hS_ => mv rfl) HF21 rfl rfl ?_
   refine hT 1 rfl (by kernel_rfl) (fun w_ hS_ => mv rfl) HF21 rfl rfl ?_
   refine hT 2 rfl (by kernel_rfl) (fun w_ hS_ => mv rfl) HF21 rfl rfl ?_
   refine hT 3 rfl (by kernel_rfl) (fun w_ hS_ => bAdd rfl rfl) HF21 rfl rfl ?_
   refine hT 4 rfl (by kernel_rfl) (fun w_ hS_ => mv rfl) HF21 rfl rfl ?_
   refine hT 5 rfl (by kernel_rfl) (fun w_ hS_ => mv rfl) HF21 rfl rfl ?_
   refine hT 6 rfl (by kernel_rfl) (fun w_ hS_ => mv rfl) HF21 rfl rfl ?_
   refine hT 7 rfl (by kernel_rfl) (fun w_ hS_ => bAdd rfl rfl) HF21 rfl rfl ?_
   refine hT 8 rfl (by kernel_rfl) (fun w_ hS_ => mv rfl) HF21 rfl rfl ?_
   refine hT 9 rfl (by kernel_rfl) (fun w_ hS_ => mv rfl) HF21 rfl rfl ?_
   refine hT 10 rfl (by kernel_rfl) (fun w_ hS_ => mv rfl) HF21 rfl rfl ?_
   refine hT 11 rfl (by kernel_rfl) (fun w_ hS_ => bAdd rfl rfl) HF21 rfl rfl ?_
   replace H := chk H; obtain ⟨c89, H⟩ := H
   replace H := chk H; obtain ⟨c90, H⟩ := H
   obtain ⟨g6, o6, e42, rfl, hk21, q21⟩ := RdS.at_ ho10.rd c89 c90
   obtain ⟨A61, c91, A62, c92, A63, c93, rfl, hr61, hr62, hr63⟩ := rd_T_api_Lsa hk21
   refine hT 12 rfl (by kernel_rfl) (fun w_ hS_ => ia rfl rfl Try.underlying24 ti44 c89 c90) HF21 rfl rfl ?_
   refine hT 14 rfl (by kernel_rfl) (fun w_ hS_ => mv rfl) HF21 rfl rfl ?_
   refine hT 15 rfl (by kernel_rfl) (fun w_ hS_ => mv rfl) HF21 rfl rfl ?_
   refine hT 16 rfl (by kernel_rfl) (fun w_ hS_ => mv rfl) HF21 rfl rfl ?_
   refine hT 17 rfl (by kernel_rfl) (fun w_ hS_ => bAdd rfl rfl) HF21 rfl rfl ?_
   replace H := chk H; obtain ⟨c94, H⟩ := H
   replace H := chk H; obtain ⟨c95, H⟩ := H
   obtain ⟨e44, hk22, q22⟩ := RdS.at' ho10.rd c94 c95
   obtain ⟨A64, c96, A65, c97, A66, c98, rfl, hr64, hr65, hr66⟩ := rd_T_api_Lsa hk22
   refine hT 18 rfl (by kernel_rfl) (fun w_ hS_ => ia rfl rfl Try.underlying24 ti44 c94 c95) HF21 rfl rfl ?_
   refine h2 13 19 (by kernel_rfl) rfl rfl ?_ ?_
   ·refine qL rfl gd0 (ldA rfl ti44 rfl rfl (fun j v hj => HF20.cells (sub_h) (q21 j v hj))) rfl HF21 ?_
    refine h1 19 (by kernel_rfl) rfl ?_
    refine qL rfl gd0 (ldA rfl ti44 rfl rfl (fun j v hj => HF20.cells (sub_h) (q22 j v hj))) rfl HF21 ?_
    obtain ⟨e46, hk23, q23⟩ := RdS.at' ho10.rd c94 c95
    obtain ⟨A67, c99, A68, c100, A69, c101, rfl, hr67, hr68, hr69⟩ := rd_T_api_Lsa hk23
    refine hT 20 rfl (by kernel_rfl) (fun w_ hS_ => ia rfl rfl Try.underlying24 ti44 c94 c95) HF21 rfl rfl ?_
    refine h1 21 (by kernel_rfl) rfl ?_
    refine qS rfl gd0 (oStE (K := (kShr G k_T_api_Lsa)) (c := c_a0) (off := 0) (y' := (rd s1.2 (IntKind.i64.wrap (a2 + s1.1)))) shrS HF20 ho10 c94 c95 rfl rfl ti44 rfl (ones rfl) (Nat.le_of_ble_eq_true rfl) (fun ci hci => shrAll hci rfl (mk_T_api_Lsa (x := (rd s1.2 (IntKind.i64.wrap (a2 + s1.1)))) (hr61) (hr62) (hr63)))) ?_
    rintro w15 ⟨L13, HF22, ho13⟩
    have HF23 := HF22.sublist (sl_da sR)
    refine ⟨HF23, ?_⟩
    refine hSet (i := 0) (v := .slice (some ⟨g6, o6, none⟩) (setI s1.2 (IntKind.i64.wrap (a1 + s1.1)) (rd s1.2 (IntKind.i64.wrap (a2 + s1.1)))).length c_a0) rfl (by simp only [len_setI]) ?_
    refine hSet (i := 16) (v := .slice (some ⟨g6, o6, none⟩) (setI s1.2 (IntKind.i64.wrap (a1 + s1.1)) (rd s1.2 (IntKind.i64.wrap (a2 + s1.1)))).length c_a0) rfl (by simp only [len_setI]) ?_
    refine hSet (i := 20) (v := .slice (some ⟨g6, o6, none⟩) (setI s1.2 (IntKind.i64.wrap (a1 + s1.1)) (rd s1.2 (IntKind.i64.wrap (a2 + s1.1)))).length c_a0) rfl (by simp only [len_setI]) ?_
    refine hSet (i := 24) (v := .slice (some ⟨g6, o6, none⟩) (setI s1.2 (IntKind.i64.wrap (a1 + s1.1)) (rd s1.2 (IntKind.i64.wrap (a2 + s1.1)))).length c_a0) rfl (by simp only [len_setI]) ?_
    refine hSet (i := 30) (v := .slice (some ⟨g6, o6, none⟩) (setI s1.2 (IntKind.i64.wrap (a1 + s1.1)) (rd s1.2 (IntKind.i64.wrap (a2 + s1.1)))).length c_a0) rfl (by simp only [len_setI]) ?_
    replace H := chk H; obtain ⟨c102, H⟩ := H
    obtain ⟨e48, hk24, q24⟩ := RdS.at' ho13.rd c89 c102
    obtain ⟨A70, c103, A71, c104, A72, c105, rfl, hr70, hr71, hr72⟩ := rd_T_api_Lsa hk24
    refine hT 22 rfl (by kernel_rfl) (fun w_ hS_ => ia rfl rfl Try.underlying24 ti44 c89 c102) HF23 rfl rfl ?_
    refine h1 23 (by kernel_rfl) rfl ?_
    refine qS rfl gd0 (oStE (K := (kShr G k_T_api_Lsa)) (c := c_a0) (off := 0) (y' := (rd s1.2 (IntKind.i64.wrap (a1 + s1.1)))) shrS HF22 ho13 c89 c102 rfl rfl ti44 rfl (ones rfl) (Nat.le_of_ble_eq_true rfl) (fun ci hci => shrAll hci rfl (mk_T_api_Lsa (x := (rd s1.2 (IntKind.i64.wrap (a1 + s1.1)))) (hr64) (hr65) (hr66)))) ?_
    rintro w16 ⟨L14, HF24, ho14⟩
    have HF25 := HF24.sublist (sl_da sR)
    refine ⟨HF25, ?_⟩
    refine hSet (i := 0) (v := .slice (some ⟨g6, o6, none⟩) (setI (setI s1.2 (IntKind.i64.wrap (a1 + s1.1)) (rd s1.2 (IntKind.i64.wrap (a2 + s1.1)))) (IntKind.i64.wrap (a2 + s1.1)) (rd s1.2 (IntKind.i64.wrap (a1 + s1.1)))).length c_a0) rfl (by simp only [len_setI]) ?_
    refine hSet (i := 16) (v := .slice (some ⟨g6, o6, none⟩) (setI (setI s1.2 (IntKind.i64.wrap (a1 + s1.1)) (rd s1.2 (IntKind.i64.wrap (a2 + s1.1)))) (IntKind.i64.wrap (a2 + s1.1)) (rd s1.2 (IntKind.i64.wrap (a1 + s1.1)))).length c_a0) rfl (by simp only [len_setI]) ?_
    refine hSet (i := 20) (v := .slice (some ⟨g6, o6, none⟩) (setI (setI s1.2 (IntKind.i64.wrap (a1 + s1.1)) (rd s1.2 (IntKind.i64.wrap (a2 + s1.1)))) (IntKind.i64.wrap (a2 + s1.1)) (rd s1.2 (IntKind.i64.wrap (a1 + s1.1)))).length c_a0) rfl (by simp only [len_setI]) ?_
    refine hSet (i := 24) (v := .slice (some ⟨g6, o6, none⟩) (setI (setI s1.2 (IntKind.i64.wrap (a1 + s1.1)) (rd s1.2 (IntKind.i64.wrap (a2 + s1.1)))) (IntKind.i64.wrap (a2 + s1.1)) (rd s1.2 (IntKind.i64.wrap (a1 + s1.1)))).length c_a0) rfl (by simp only [len_setI]) ?_
    refine hSet (i := 30) (v := .slice (some ⟨g6, o6, none⟩) (setI (setI s1.2 (IntKind.i64.wrap (a1 + s1.1)) (rd s1.2 (IntKind.i64.wrap (a2 + s1.1)))) (IntKind.i64.wrap (a2 + s1.1)) (rd s1.2 (IntKind.i64.wrap (a1 + s1.1)))).length c_a0) rfl (by simp only [len_setI]) ?_
    refine hEnd (by kernel_rfl) ?_
    refine jN (kN (?_))
    refine hK10 _ _ ?_
    refine cRgn [] trivial ?_
    refine sL (mv rfl) rfl ?_
    refine sL (bAdd rfl rfl) rfl ?_
    refine sL (asg rfl) rfl ?_
    refine lE ?_
    refine kN (?_)
    exact ofEnv (fun a hE => ⟨_, (Option.some.inj H).symm, ⟨L14, hE.keep (Keep.cons rfl (Keep.cons rfl (Keep.cons rfl (Keep.cons rfl (Keep.cons rfl (Keep.nil)))))), HF24, ho14⟩⟩)
   refine qL rfl gd0 (ldA rfl ti44 rfl rfl (fun j v hj => HF20.cells (sub_h) (q22 j v hj))) rfl HF21 ?_
   refine h1 13 (by kernel_rfl) rfl ?_
   refine qL rfl gd0 (ldA rfl ti44 rfl rfl (fun j v hj => HF20.cells (sub_h) (q21 j v hj))) rfl HF21 ?_
   obtain ⟨e46, hk23, q23⟩ := RdS.at' ho10.rd c94 c95
   obtain ⟨A67, c99, A68, c100, A69, c101, rfl, hr67, hr68, hr69⟩ := rd_T_api_Lsa hk23
   refine hT 20 rfl (by kernel_rfl) (fun w_ hS_ => ia rfl rfl Try.underlying24 ti44 c94 c95) HF21 rfl rfl ?_
   refine h1 21 (by kernel_rfl) rfl ?_
   refine qS rfl gd0 (oStE (K := (kShr G k_T_api_Lsa)) (c := c_a0) (off := 0) (y' := (rd s1.2 (IntKind.i64.wrap (a2 + s1.1)))) shrS HF20 ho10 c94 c95 rfl rfl ti44 rfl (ones rfl) (Nat.le_of_ble_eq_true rfl) (fun ci hci => shrAll hci rfl (mk_T_api_Lsa (x := (rd s1.2 (IntKind.i64.wrap (a2 + s1.1)))) (hr61) (hr62) (hr63)))) ?_
   rintro w15 ⟨L13, HF22, ho13⟩
   have HF23 := HF22.sublist (sl_da sR)
   refine ⟨HF23, ?_⟩
   refine hSet (i := 0) (v := .slice (some ⟨g6, o6, none⟩) (setI s1.2 (IntKind.i64.wrap (a1 + s1.1)) (rd s1.2 (IntKind.i64.wrap (a2 + s1.1)))).length c_a0) rfl (by simp only [len_setI]) ?_
   refine hSet (i := 16) (v := .slice (some ⟨g6, o6, none⟩) (setI s1.2 (IntKind.i64.wrap (a1 + s1.1)) (rd s1.2 (IntKind.i64.wrap (a2 + s1.1)))).length c_a0) rfl (by simp only [len_setI]) ?_
   refine hSet (i := 20) (v := .slice (some ⟨g6, o6, none⟩) (setI s1.2 (IntKind.i64.wrap (a1 + s1.1)) (rd s1.2 (IntKind.i64.wrap (a2 + s1.1)))).length c_a0) rfl (by simp only [len_setI]) ?_
   refine hSet (i := 24) (v := .slice (some ⟨g6, o6, none⟩) (setI s1.2 (IntKind.i64.wrap (a1 + s1.1)) (rd s1.2 (IntKind.i64.wrap (a2 + s1.1)))).length c_a0) rfl (by simp only [len_setI]) ?_
   refine hSet (i := 30) (v := .slice (some ⟨g6, o6, none⟩) (setI s1.2 (IntKind.i64.wrap (a1 + s1.1)) (rd s1.2 (IntKind.i64.wrap (a2 + s1.1)))).length c_a0) rfl (by simp only [len_setI]) ?_
   replace H := chk H; obtain ⟨c102, H⟩ := H
   obtain ⟨e48, hk24, q24⟩ := RdS.at' ho13.rd c89 c102
   obtain ⟨A70, c103, A71, c104, A72, c105, rfl, hr70, hr71, hr72⟩ := rd_T_api_Lsa hk24
   refine hT 22 rfl (by kernel_rfl) (fun w_ hS_ => ia rfl rfl Try.underlying24 ti44 c89 c102) HF23 rfl rfl ?_
   refine h1 23 (by kernel_rfl) rfl ?_
   refine qS rfl gd0 (oStE (K := (kShr G k_T_api_Lsa)) (c := c_a0) (off := 0) (y' := (rd s1.2 (IntKind.i64.wrap (a1 + s1.1)))) shrS HF22 ho13 c89 c102 rfl rfl ti44 rfl (ones rfl) (Nat.le_of_ble_eq_true rfl) (fun ci hci => shrAll hci rfl (mk_T_api_Lsa (x := (rd s1.2 (IntKind.i64.wrap (a1 + s1.1)))) (hr64) (hr65) (hr66)))) ?_
   rintro w16 ⟨L14, HF24, ho14⟩
   have HF25 := HF24.sublist (sl_da sR)
   refine ⟨HF25, ?_⟩
   refine hSet (i := 0) (v := .slice (some ⟨g6, o6, none⟩) (setI (setI s1.2 (IntKind.i64.wrap (a1 + s1.1)) (rd s1.2 (IntKind.i64.wrap (a2 + s1.1)))) (IntKind.i64.wrap (a2 + s1.1)) (rd s1.2 (IntKind.i64.wrap (a1 + s1.1)))).length c_a0) rfl (by simp only [len_setI]) ?_
   refine hSet (i := 16) (v := .slice (some ⟨g6, o6, none⟩) (setI (setI s1.2 (IntKind.i64.wrap (a1 + s1.1)) (rd s1.2 (IntKind.i64.wrap (a2 + s1.1)))) (IntKind.i64.wrap (a2 + s1.1)) (rd s1.2 (IntKind.i64.wrap (a1 + s1.1)))).length c_a0) rfl (by simp only [len_setI]) ?_
   refine hSet (i := 20) (v := .slice (some ⟨g6, o6, none⟩) (setI (setI s1.2 (IntKind.i64.wrap (a1 + s1.1)) (rd s1.2 (IntKind.i64.wrap (a2 + s1.1)))) (IntKind.i64.wrap (a2 + s1.1)) (rd s1.2 (IntKind.i64.wrap (a1 + s1.1)))).length c_a0) rfl (by simp only [len_setI]) ?_
   refine hSet (i := 24) (v := .slice (some ⟨g6, o6, none⟩) (setI (setI s1.2 (IntKind.i64.wrap (a1 + s1.1)) (rd s1.2 (IntKind.i64.wrap (a2 + s1.1)))) (IntKind.i64.wrap (a2 + s1.1)) (rd s1.2 (IntKind.i64.wrap (a1 + s1.1)))).length c_a0) rfl (by simp only [len_setI]) ?_
   refine hSet (i := 30) (v := .slice (some ⟨g6, o6, none⟩) (setI (setI s1.2 (IntKind.i64.wrap (a1 + s1.1)) (rd s1.2 (IntKind.i64.wrap (a2 + s1.1)))) (IntKind.i64.wrap (a2 + s1.1)) (rd s1.2 (IntKind.i64.wrap (a1 + s1.1)))).length c_a0) rfl (by simp only [len_setI]) ?_
   refine hEnd (by kernel_rfl) ?_
   refine jN (kN (?_))
   refine hK10 _ _ ?_
   refine cRgn [] trivial ?_
   refine sL (mv rfl) rfl ?_
   refine sL (bAdd rfl rfl) rfl ?_
   refine sL (asg rfl) rfl ?_
   refine lE ?_
   refine kN (?_)
   exact ofEnv (fun a hE => ⟨_, (Option.some.inj H).symm, ⟨L14, hE.keep (Keep.cons rfl (Keep.cons rfl (Keep.cons rfl (Keep.cons rfl (Keep.cons rfl (Keep.nil)))))), HF24, ho14⟩⟩)
  replace H := itF c71 H
  refine cSet (i := 13) rfl (dF c71) ?_
  refine cF rfl ?_
  refine cExit ?_
  refine kX (kX (jX (kN (?_))))
  exact ofEnv (fun a hE => ⟨_, (Option.some.inj H).symm, ⟨L10, hE.keep (Keep.cons rfl (Keep.cons rfl (Keep.cons rfl (Keep.cons rfl (Keep.cons rfl (Keep.nil)))))), HF17, ho10⟩⟩)
 rintro s1 a w17 rfl ⟨L10, hE, HF26, ho10⟩
 replace H := Ho1
 refine go_k hE ?_
 obtain rfl := Option.some.inj H
 refine end0 rfl ?_
 exact ⟨[], L10, rfl, HF26, ho10⟩
/-! ### slices.rotateCmpFunc[plenum/api.Lsa] (function 80) -/
abbrev f_slices_rotateCmpFunc_api_Lsa_fn49.R := List T_api_Lsa
noncomputable def f_slices_rotateCmpFunc_api_Lsa_fn49.b0 (a2 : Int) (s1 : Int × Int × (List T_api_Lsa)) : Option (Sum (Int × Int × (List T_api_Lsa)) (Sum (Int × Int × (List T_api_Lsa)) f_slices_rotateCmpFunc_api_Lsa_fn49.R)) := (if s1.1 = s1.2.1 then some (.inr (.inl (s1.1, s1.2.1, s1.2.2))) else (if s1.2.1 < s1.1 then ((f_slices_swapRangeCmpFunc_api_Lsa_fn49 s1.2.2 (IntKind.i64.wrap (a2 - s1.1)) a2 s1.2.1).bind fun t5 => (if t5.length = s1.2.2.length then some (.inl (IntKind.i64.wrap (s1.1 - s1.2.1), s1.2.1, t5)) else none)) else ((f_slices_swapRangeCmpFunc_api_Lsa_fn49 s1.2.2 (IntKind.i64.wrap (a2 - s1.1)) (IntKind.i64.wrap ((IntKind.i64.wrap (a2 + s1.2.1)) - s1.1)) s1.1).bind fun t6 => (if t6.length = s1.2.2.length then some (.inl (s1.1, IntKind.i64.wrap (s1.2.1 - s1.1), t6)) else none))))
noncomputable def f_slices_rotateCmpFunc_api_Lsa_fn49 (a0 : List T_api_Lsa) (a1 : Int) (a2 : Int) (a3 : Int) : Option f_slices_rotateCmpFunc_api_Lsa_fn49.R := ((loopO (f_slices_rotateCmpFunc_api_Lsa_fn49.b0 a2) (IntKind.i64.wrap (a2 - a1), IntKind.i64.wrap (a3 - a2), a0)).bind fun y1 => match y1 with | .inl s1 => ((f_slices_swapRangeCmpFunc_api_Lsa_fn49 s1.2.2 (IntKind.i64.wrap (a2 - s1.1)) a2 s1.1).bind fun t7 => (if t7.length = s1.2.2.length then some t7 else none)) | .inr r_ => some r_)
set_option maxHeartbeats 1000000 in
theorem f_slices_rotateCmpFunc_api_Lsa_fn49.ok {z w : World} {F G : Hp} (hG : G ⊆ F) {a0 : List T_api_Lsa} {A_a0 : Option Addr} {c_a0 : Nat} {L_a0 : Hp} {a1 : Int} {a2 : Int} {a3 : Int} {r : f_slices_rotateCmpFunc_api_Lsa_fn49.R} (H : f_slices_rotateCmpFunc_api_Lsa_fn49 a0 a1 a2 a3 = some r) (HF : Fits z w (L_a0 ++ F)) (ho_a0 : OwnS (kShr G k_T_api_Lsa) L_a0 A_a0 c_a0 a0) :
  Calls Try.prog 80 [.slice A_a0 a0.length c_a0, .int .i64 a1, .int .i64 a2, .int .i64 a3, .func (.func 49) [].toArray [].toArray].toArray w fun e w' => ∃ (N : Hp) (M0 : Hp), e = .returned (.tuple #[]) ∧ Fits z w' (M0 ++ (N ++ F)) ∧ OwnS (kShr (N ++ G) k_T_api_Lsa) M0 A_a0 c_a0 r := by
 unfold f_slices_rotateCmpFunc_api_Lsa_fn49 at H
 refine enter0 Try.func80 rfl Try.ntmps80 rfl (E := [(0, .slice A_a0 a0.length c_a0), (1, .int .i64 a1), (2, .int .i64 a2), (3, .int .i64 a3), (4, .func (.func 49) [].toArray [].toArray)]) rfl ?_
 refine cSeq (fun K1 hK1 => ?_)
 refine cRgn [] trivial ?_
 refine sL (mv rfl) rfl ?_
 refine sL (mv rfl) rfl ?_
 refine sL (bSub rfl rfl) rfl ?_
 refine sL (asg rfl) rfl ?_
 refine lE ?_
 refine kN (?_)
 refine hK1 _ _ ?_
 refine cSeq (fun K2 hK2 => ?_)
 refine cRgn [] trivial ?_
 refine sL (mv rfl) rfl ?_
 refine sL (mv rfl) rfl ?_
 refine sL (bSub rfl rfl) rfl ?_
 refine sL (asg rfl) rfl ?_
 refine lE ?_
 refine kN (?_)
 refine hK2 _ _ ?_
 refine cSeq (fun K3 hK3 => ?_)
 replace H := bnd H; obtain ⟨y1, J8, Ho1⟩ := H
 refine cLoopB (f_slices_rotateCmpFunc_api_Lsa_fn49.b0 a2) (fun (s1 : Int × Int × (List T_api_Lsa)) a w => ∃ (D2 : Hp) (L6 : Hp), Env 58 [(0, .slice A_a0 s1.2.2.length c_a0), (2, .int .i64 a2), (4, .func (.func 49) [].toArray [].toArray), (10, .int .i64 s1.1), (11, .int .i64 s1.2.1)] a ∧ Fits z w (L6 ++ (D2 ++ F)) ∧ OwnS (kShr (D2 ++ G) k_T_api_Lsa) L6 A_a0 c_a0 s1.2.2) J8 (fun a hE => ⟨[], L_a0, hE.keep (Keep.cons rfl (Keep.cons rfl (Keep.cons rfl (Keep.cons rfl (Keep.cons rfl (Keep.nil)))))), HF, ho_a0⟩) ?_ ?_
 ·rintro s1 a w5 y2 ⟨D2, L6, hE, HF7, ho6⟩ H Hx1
  refine go_ hE ?_
  have hs6 : G ⊆ D2 ++ G := sub_a sub_r
  refine cSeq (fun K14 hK14 => ?_)
  refine cSeq (fun K15 hK15 => ?_)
  refine cRgn [] trivial ?_
  refine sL (mv rfl) rfl ?_
  refine sL (mv rfl) rfl ?_
  refine sL (bNeq rfl rfl) rfl ?_
  refine lE ?_
  refine kN (?_)
  refine hK15 _ _ ?_
  by_cases c9 : s1.1 = s1.2.1
  ·replace H := itT c9 H
   refine cSet (i := 20) rfl (nF c9) ?_
   refine cF rfl ?_
   refine cExit ?_
   refine kX (kX (jX (kN (?_))))
   exact ofEnv (fun a hE => ⟨_, (Option.some.inj H).symm, ⟨D2, L6, hE.keep (Keep.cons rfl (Keep.cons rfl (Keep.cons rfl (Keep.cons rfl (Keep.cons rfl (Keep.nil)))))), HF7, ho6⟩⟩)
  replace H := itF c9 H
  refine cSet (i := 20) rfl (nT c9) ?_
  refine cT rfl ?_
  refine cSkip ?_
  refine kN (?_)
  refine hK14 _ _ ?_
  refine cBlock ?_
  refine cSeq (fun K16 hK16 => ?_)
  refine cRgn [] trivial ?_
  refine sL (mv rfl) rfl ?_
  refine sL (mv rfl) rfl ?_
  refine sL (bGtr rfl rfl) rfl ?_
  refine lE ?_
  refine kN (?_)
  refine hK16 _ _ ?_
  by_cases c10 : s1.2.1 < s1.1
  ·replace H := itT c10 H
   refine cSet (i := 23) rfl (dT c10) ?_
   refine cT rfl ?_
   refine cSeq (fun K17 hK17 => ?_)
   refine cRgn [] trivial ?_
   refine sL (mv rfl) rfl ?_
   refine sL (mv rfl) rfl ?_
   refine sL (mv rfl) rfl ?_
   refine sL (bSub rfl rfl) rfl ?_
   refine sL (mv rfl) rfl ?_
   refine sL (mv rfl) rfl ?_
   refine sL (mv rfl) rfl ?_
   replace H := bnd H; obtain ⟨t5, J5, H⟩ := H
   refine eCall isf82 rfl rfl rfl (f_slices_swapRangeCmpFunc_api_Lsa_fn49.ok (a0 := s1.2.2) (sub_n hG) J5 HF7 ho6) ?_
   rintro _ w6 ⟨N7, L7, rfl, HF8, ho7⟩
   obtain ⟨N8, hN3⟩ : ∃ N_, N_ = N7 ++ D2 := ⟨_, rfl⟩
   have HF9 := HF8; rw [← List.append_assoc N7 D2 F, ← hN3] at HF9
   have hs7 : D2 ++ G ⊆ N8 ++ G := frz_s hN3
   have hr3 := OwnS.lift (G' := (N8 ++ G)) ho7 (frz_c hN3)
   refine ⟨_, rfl, ?_⟩
   replace H := chk H; obtain ⟨c11, H⟩ := H
   refine lSet (i := 0) (v := .slice A_a0 t5.length c_a0) rfl (by rw [c11]) ?_
   refine lSet (i := 24) (v := .slice A_a0 t5.length c_a0) rfl (by rw [c11]) ?_
   refine lE ?_
   refine kN (?_)
   refine hK17 _ _ ?_
   refine cRgn [] trivial ?_
   refine sL (mv rfl) rfl ?_
   refine sL (mv rfl) rfl ?_
   refine sL (bSub rfl rfl) rfl ?_
   refine sL (asg rfl) rfl ?_
   refine lE ?_
   refine jN (kN (?_))
   exact ofEnv (fun a hE => ⟨_, (Option.some.inj H).symm, ⟨N8, L7, hE.keep (Keep.cons rfl (Keep.cons rfl (Keep.cons rfl (Keep.cons rfl (Keep.cons rfl (Keep.nil)))))), HF9, hr3⟩⟩)
  replace H := itF c10 H
  refine cSet (i := 23) rfl (dF c10) ?_
  refine cF rfl ?_
  refine cSeq (fun K18 hK18 => ?_)
  refine cRgn [] trivial ?_
  refine sL (mv rfl) rfl ?_
  refine sL (mv rfl) rfl ?_
  refine sL (mv rfl) rfl ?_
  refine sL (bSub rfl rfl) rfl ?_
  refine sL (mv rfl) rfl ?_
  refine sL (mv rfl) rfl ?_
  refine sL (bAdd rfl rfl) rfl ?_
  refine sL (mv rfl) rfl ?_
  refine sL (bSub rfl rfl) rfl ?_
  refine sL (mv rfl) rfl ?_
  refine sL (mv rfl) rfl ?_
  replace H := bnd H; obtain ⟨t6, J6, H⟩ := H
  refine eCall isf82 rfl rfl rfl (f_slices_swapRangeCmpFunc_api_Lsa_fn49.ok (a0 := s1.2.2) (sub_n hG) J6 HF7 ho6) ?_
  rintro _ w7 ⟨N9, L8, rfl, HF10, ho8⟩
  obtain ⟨N10, hN4⟩ : ∃ N_, N_ = N9 ++ D2 := ⟨_, rfl⟩
  have HF11 := HF10; rw [← List.append_assoc N9 D2 F, ← hN4] at HF11
  have hs8 : D2 ++ G ⊆ N10 ++ G := frz_s hN4
  have hr4 := OwnS.lift (G' := (N10 ++ G)) ho8 (frz_c hN4)
  refine ⟨_, rfl, ?_⟩
  replace H := chk H; obtain ⟨c12, H⟩ := H
  refine lSet (i := 0) (v := .slice A_a0 t6.length c_a0) rfl (by rw [c12]) ?_
  refine lSet (i := 35) (v := .slice A_a0 t6.length c_a0) rfl (by rw [c12]) ?_
  refine lE ?_
  refine kN (?_)
  refine hK18 _ _ ?_
  refine cRgn [] trivial ?_
  refine sL (mv rfl) rfl ?_
  refine sL (mv rfl) rfl ?_
  refine sL (bSub rfl rfl) rfl ?_
  refine sL (asg rfl) rfl ?_
  refine lE ?_
  refine jN (kN (?_))
  exact ofEnv (fun a hE => ⟨_, (Option.some.inj H).symm, ⟨N10, L8, hE.keep (Keep.cons rfl (Keep.cons rfl (Keep.cons rfl (Keep.cons rfl (Keep.cons rfl (Keep.nil)))))), HF11, hr4⟩⟩)
 rintro s1 a w8 rfl ⟨D2, L6, hE, HF12, ho6⟩
 replace H := Ho1
 refine go_k hE ?_
 have hs9 : G ⊆ D2 ++ G := sub_a sub_r
 refine kN (?_)
 refine hK3 _ _ ?_
 refine cRgn [] trivial ?_
 refine sL (mv rfl) rfl ?_
 refine sL (mv rfl) rfl ?_
 refine sL (mv rfl) rfl ?_
 refine sL (bSub rfl rfl) rfl ?_
 refine sL (mv rfl) rfl ?_
 refine sL (mv rfl) rfl ?_
 refine sL (mv rfl) rfl ?_
 replace H := bnd H; obtain ⟨t7, J7, H⟩ := H
 refine eCall isf82 rfl rfl rfl (f_slices_swapRangeCmpFunc_api_Lsa_fn49.ok (a0 := s1.2.2) (sub_n hG) J7 HF12 ho6) ?_
 rintro _ w9 ⟨N11, L9, rfl, HF13, ho9⟩
 obtain ⟨N12, hN5⟩ : ∃ N_, N_ = N11 ++ D2 := ⟨_, rfl⟩
 have HF14 := HF13; rw [← List.append_assoc N11 D2 F, ← hN5] at HF14
 have hs10 : D2 ++ G ⊆ N12 ++ G := frz_s hN5
 have hr5 := OwnS.lift (G' := (N12 ++ G)) ho9 (frz_c hN5)
 refine ⟨_, rfl, ?_⟩
 replace H := chk H; obtain ⟨c13, H⟩ := H
 refine lSet (i := 0) (v := .slice A_a0 t7.length c_a0) rfl (by rw [c13]) ?_
 refine lSet (i := 50) (v := .slice A_a0 t7.length c_a0) rfl (by rw [c13]) ?_
 refine lE ?_
 obtain rfl := Option.some.inj H
 refine end0 rfl ?_
 exact ⟨N12, L9, rfl, HF14, hr5⟩
/-! ### slices.symMergeCmpFunc[plenum/api.Lsa] (function 74) -/
abbrev f_slices_symMergeCmpFunc_api_Lsa_fn49.R := List T_api_Lsa
noncomputable def f_slices_symMergeCmpFunc_api_Lsa_fn49.b0 (a0 : List T_api_Lsa) (a1 : Int) (s1 : Int × Int) : Option (Sum (Int × Int) (Sum (Int × Int) f_slices_symMergeCmpFunc_api_Lsa_fn49.R)) := (if s1.1 < s1.2 then (if 0 ≤ (IntKind.i64.wrap (shrI .u64 (IntKind.u64.wrap (IntKind.i64.wrap (s1.1 + s1.2))) 1)) then (if (IntKind.i64.wrap (shrI .u64 (IntKind.u64.wrap (IntKind.i64.wrap (s1.1 + s1.2))) 1)) < (a0.length : Int) then (if 0 ≤ a1 then (if a1 < (a0.length : Int) then ((f_topo_live_1 (rd a0 (IntKind.i64.wrap (shrI .u64 (IntKind.u64.wrap (IntKind.i64.wrap (s1.1 + s1.2))) 1))) (rd a0 a1)).bind fun t6 => (if t6 < 0 then some (.inl (IntKind.i64.wrap ((IntKind.i64.wrap (shrI .u64 (IntKind.u64.wrap (IntKind.i64.wrap (s1.1 + s1.2))) 1)) + 1), s1.2)) else some (.inl (s1.1, IntKind.i64.wrap (shrI .u64 (IntKind.u64.wrap (IntKind.i64.wrap (s1.1 + s1.2))) 1))))) else none) else none) else none) else none) else some (.inr (.inl (s1.1, s1.2))))
noncomputable def f_slices_symMergeCmpFunc_api_Lsa_fn49.b1 (s1 : Int × Int) (s2 : Int × (List T_api_Lsa)) : Option (Sum (Int × (List T_api_Lsa)) (Sum (Int × (List T_api_Lsa)) f_slices_symMergeCmpFunc_api_Lsa_fn49.R)) := (if s2.1 < (IntKind.i64.wrap (s1.1 - 1)) then (if 0 ≤ (IntKind.i64.wrap (s2.1 + 1)) then (if (IntKind.i64.wrap (s2.1 + 1)) < (s2.2.length : Int) then (if 0 ≤ s2.1 then (if s2.1 < (s2.2.length : Int) then (if (IntKind.i64.wrap (s2.1 + 1)) < ((setI s2.2 s2.1 (rd s2.2 (IntKind.i64.wrap (s2.1 + 1)))).length : Int) then some (.inl (IntKind.i64.wrap (s2.1 + 1), setI (setI s2.2 s2.1 (rd s2.2 (IntKind.i64.wrap (s2.1 + 1)))) (IntKind.i64.wrap (s2.1 + 1)) (rd s2.2 s2.1))) else none) else none) else none) else none) else none) else some (.inr (.inl (s2.1, s2.2))))
noncomputable def f_slices_symMergeCmpFunc_api_Lsa_fn49.b2 (a0 : List T_api_Lsa) (a2 : Int) (s3 : Int × Int) : Option (Sum (Int × Int) (Sum (Int × Int) f_slices_symMergeCmpFunc_api_Lsa_fn49.R)) := (if s3.1 < s3.2 then (if 0 ≤ a2 then (if a2 < (a0.length : Int) then (if 0 ≤ (IntKind.i64.wrap (shrI .u64 (IntKind.u64.wrap (IntKind.i64.wrap (s3.1 + s3.2))) 1)) then (if (IntKind.i64.wrap (shrI .u64 (IntKind.u64.wrap (IntKind.i64.wrap (s3.1 + s3.2))) 1)) < (a0.length : Int) then ((f_topo_live_1 (rd a0 a2) (rd a0 (IntKind.i64.wrap (shrI .u64 (IntKind.u64.wrap (IntKind.i64.wrap (s3.1 + s3.2))) 1)))).bind fun t12 => (if t12 < 0 then some (.inl (s3.1, IntKind.i64.wrap (shrI .u64 (IntKind.u64.wrap (IntKind.i64.wrap (s3.1 + s3.2))) 1))) else some (.inl (IntKind.i64.wrap ((IntKind.i64.wrap (shrI .u64 (IntKind.u64.wrap (IntKind.i64.wrap (s3.1 + s3.2))) 1)) + 1), s3.2)))) else none) else none) else none) else none) else some (.inr (.inl (s3.1, s3.2))))
noncomputable def f_slices_symMergeCmpFunc_api_Lsa_fn49.b3 (s3 : Int × Int) (s4 : Int × (List T_api_Lsa)) : Option (Sum (Int × (List T_api_Lsa)) (Sum (Int × (List T_api_Lsa)) f_slices_symMergeCmpFunc_api_Lsa_fn49.R)) := (if s3.1 < s4.1 then (if 0 ≤ (IntKind.i64.wrap (s4.1 - 1)) then (if (IntKind.i64.wrap (s4.1 - 1)) < (s4.2.length : Int) then (if 0 ≤ s4.1 then (if s4.1 < (s4.2.length : Int) then (if (IntKind.i64.wrap (s4.1 - 1)) < ((setI s4.2 s4.1 (rd s4.2 (IntKind.i64.wrap (s4.1 - 1)))).length : Int) then some (.inl (IntKind.i64.wrap (s4.1 - 1), setI (setI s4.2 s4.1 (rd s4.2 (IntKind.i64.wrap (s4.1 - 1)))) (IntKind.i64.wrap (s4.1 - 1)) (rd s4.2 s4.1))) else none) else none) else none) else none) else none) else some (.inr (.inl (s4.1, s4.2))))
noncomputable def f_slices_symMergeCmpFunc_api_Lsa_fn49.b4 (a0 : List T_api_Lsa) (a1 : Int) (a2 : Int) (a3 : Int) (s6 : Int × Int) : Option (Sum (Int × Int) (Sum (Int × Int) f_slices_symMergeCmpFunc_api_Lsa_fn49.R)) := (if s6.1 < s6.2 then (if 0 ≤ (IntKind.i64.wrap ((IntKind.i64.wrap ((IntKind.i64.wrap ((IntKind.i64.wrap (shrI .u64 (IntKind.u64.wrap (IntKind.i64.wrap (a1 + a3))) 1)) + a2)) - 1)) - (IntKind.i64.wrap (shrI .u64 (IntKind.u64.wrap (IntKind.i64.wrap (s6.1 + s6.2))) 1)))) then (if (IntKind.i64.wrap ((IntKind.i64.wrap ((IntKind.i64.wrap ((IntKind.i64.wrap (shrI .u64 (IntKind.u64.wrap (IntKind.i64.wrap (a1 + a3))) 1)) + a2)) - 1)) - (IntKind.i64.wrap (shrI .u64 (IntKind.u64.wrap (IntKind.i64.wrap (s6.1 + s6.2))) 1)))) < (a0.length : Int) then (if 0 ≤ (IntKind.i64.wrap (shrI .u64 (IntKind.u64.wrap (IntKind.i64.wrap (s6.1 + s6.2))) 1)) then (if (IntKind.i64.wrap (shrI .u64 (IntKind.u64.wrap (IntKind.i64.wrap (s6.1 + s6.2))) 1)) < (a0.length : Int) then ((f_topo_live_1 (rd a0 (IntKind.i64.wrap ((IntKind.i64.wrap ((IntKind.i64.wrap ((IntKind.i64.wrap (shrI .u64 (IntKind.u64.wrap (IntKind.i64.wrap (a1 + a3))) 1)) + a2)) - 1)) - (IntKind.i64.wrap (shrI .u64 (IntKind.u64.wrap (IntKind.i64.wrap (s6.1 + s6.2))) 1))))) (rd a0 (IntKind.i64.wrap (shrI .u64 (IntKind.u64.wrap (IntKind.i64.wrap (s6.1 + s6.2))) 1)))).bind fun t18 => (if t18 < 0 then some (.inl (s6.1, IntKind.i64.wrap (shrI .u64 (IntKind.u64.wrap (IntKind.i64.wrap (s6.1 + s6.2))) 1))) else some (.inl (IntKind.i64.wrap ((IntKind.i64.wrap (shrI .u64 (IntKind.u64.wrap (IntKind.i64.wrap (s6.1 + s6.2))) 1)) + 1), s6.2)))) else none) else none) else none) else none) else some (.inr (.inl (s6.1, s6.2))))
noncomputable def f_slices_symMergeCmpFunc_api_Lsa_fn49 : Nat → (List T_api_Lsa) → Int → Int → Int → Option f_slices_symMergeCmpFunc_api_Lsa_fn49.R
 | 0, _, _, _, _ => none
 | k_ + 1, a0, a1, a2, a3 => (if (IntKind.i64.wrap (a2 - a1)) = 1 then ((loopO (f_slices_symMergeCmpFunc_api_Lsa_fn49.b0 a0 a1) (a2, a3)).bind fun y1 => match y1 with | .inl s1 => ((loopO (f_slices_symMergeCmpFunc_api_Lsa_fn49.b1 s1) (a1, a0)).bind fun y3 => match y3 with | .inl s2 => some s2.2 | .inr r_ => some r_) | .inr r_ => some r_) else (if (IntKind.i64.wrap (a3 - a2)) = 1 then ((loopO (f_slices_symMergeCmpFunc_api_Lsa_fn49.b2 a0 a2) (a1, a2)).bind fun y5 => match y5 with | .inl s3 => ((loopO (f_slices_symMergeCmpFunc_api_Lsa_fn49.b3 s3) (a2, a0)).bind fun y7 => match y7 with | .inl s4 => some s4.2 | .inr r_ => some r_) | .inr r_ => some r_) else ((((if (IntKind.i64.wrap (shrI .u64 (IntKind.u64.wrap (IntKind.i64.wrap (a1 + a3))) 1)) < a2 then some (.inl (IntKind.i64.wrap ((IntKind.i64.wrap ((IntKind.i64.wrap (shrI .u64 (IntKind.u64.wrap (IntKind.i64.wrap (a1 + a3))) 1)) + a2)) - a3), IntKind.i64.wrap (shrI .u64 (IntKind.u64.wrap (IntKind.i64.wrap (a1 + a3))) 1))) else some (.inl (a1, a2))) : Option (Sum (Int × Int) f_slices_symMergeCmpFunc_api_Lsa_fn49.R))).bind fun y9 => match y9 with | .inl s5 => ((loopO (f_slices_symMergeCmpFunc_api_Lsa_fn49.b4 a0 a1 a2 a3) (s5.1, s5.2)).bind fun y10 => match y10 with | .inl s6 => ((((if s6.1 < a2 then some (.inl (decide (a2 < (IntKind.i64.wrap ((IntKind.i64.wrap ((IntKind.i64.wrap (shrI .u64 (IntKind.u64.wrap (IntKind.i64.wrap (a1 + a3))) 1)) + a2)) - s6.1))))) else some (.inl false)) : Option (Sum (Bool) f_slices_symMergeCmpFunc_api_Lsa_fn49.R))).bind fun y12 => match y12 with | .inl s7 => ((((if s7 = true then ((f_slices_rotateCmpFunc_api_Lsa_fn49 a0 s6.1 a2 (IntKind.i64.wrap ((IntKind.i64.wrap ((IntKind.i64.wrap (shrI .u64 (IntKind.u64.wrap (IntKind.i64.wrap (a1 + a3))) 1)) + a2)) - s6.1))).bind fun t20 => (if t20.length = a0.length then some (.inl t20) else none)) else some (.inl a0)) : Option (Sum ((List T_api_Lsa)) f_slices_symMergeCmpFunc_api_Lsa_fn49.R))).bind fun y13 => match y13 with | .inl s8 => ((((if a1 < s6.1 then some (.inl (decide (s6.1 < (IntKind.i64.wrap (shrI .u64 (IntKind.u64.wrap (IntKind.i64.wrap (a1 + a3))) 1))))) else some (.inl false)) : Option (Sum (Bool) f_slices_symMergeCmpFunc_api_Lsa_fn49.R))).bind fun y14 => match y14 with | .inl s9 => (if s9 = true then (((f_slices_symMergeCmpFunc_api_Lsa_fn49 k_) s8 a1 s6.1 (IntKind.i64.wrap (shrI .u64 (IntKind.u64.wrap (IntKind.i64.wrap (a1 + a3))) 1))).bind fun t21 => (if t21.length = s8.length then (if (IntKind.i64.wrap (shrI .u64 (IntKind.u64.wrap (IntKind.i64.wrap (a1 + a3))) 1)) < (IntKind.i64.wrap ((IntKind.i64.wrap ((IntKind.i64.wrap (shrI .u64 (IntKind.u64.wrap (IntKind.i64.wrap (a1 + a3))) 1)) + a2)) - s6.1)) then (if (IntKind.i64.wrap ((IntKind.i64.wrap ((IntKind.i64.wrap (shrI .u64 (IntKind.u64.wrap (IntKind.i64.wrap (a1 + a3))) 1)) + a2)) - s6.1)) < a3 then (((f_slices_symMergeCmpFunc_api_Lsa_fn49 k_) t21 (IntKind.i64.wrap (shrI .u64 (IntKind.u64.wrap (IntKind.i64.wrap (a1 + a3))) 1)) (IntKind.i64.wrap ((IntKind.i64.wrap ((IntKind.i64.wrap (shrI .u64 (IntKind.u64.wrap (IntKind.i64.wrap (a1 + a3))) 1)) + a2)) - s6.1)) a3).bind fun t22 => (if t22.length = t21.length then some t22 else none)) else some t21) else some t21) else none)) else (if (IntKind.i64.wrap (shrI .u64 (IntKind.u64.wrap (IntKind.i64.wrap (a1 + a3))) 1)) < (IntKind.i64.wrap ((IntKind.i64.wrap ((IntKind.i64.wrap (shrI .u64 (IntKind.u64.wrap (IntKind.i64.wrap (a1 + a3))) 1)) + a2)) - s6.1)) then (if (IntKind.i64.wrap ((IntKind.i64.wrap ((IntKind.i64.wrap (shrI .u64 (IntKind.u64.wrap (IntKind.i64.wrap (a1 + a3))) 1)) + a2)) - s6.1)) < a3 then (((f_slices_symMergeCmpFunc_api_Lsa_fn49 k_) s8 (IntKind.i64.wrap (shrI .u64 (IntKind.u64.wrap (IntKind.i64.wrap (a1 + a3))) 1)) (IntKind.i64.wrap ((IntKind.i64.wrap ((IntKind.i64.wrap (shrI .u64 (IntKind.u64.wrap (IntKind.i64.wrap (a1 + a3))) 1)) + a2)) - s6.1)) a3).bind fun t23 => (if t23.length = s8.length then some t23 else none)) else some s8) else some s8)) | .inr r_ => some r_) | .inr r_ => some r_) | .inr r_ => some r_) | .inr r_ => some r_) | .inr r_ => some r_)))
set_option maxHeartbeats 1000000 in
theorem f_slices_symMergeCmpFunc_api_Lsa_fn49.ok (k_ : Nat) : ∀ {z w : World} {F G : Hp} (hG : G ⊆ F) {a0 : List T_api_Lsa} {A_a0 : Option Addr} {c_a0 : Nat} {L_a0 : Hp} {a1 : Int} {a2 : Int} {a3 : Int} {r : f_slices_symMergeCmpFunc_api_Lsa_fn49.R} (H : f_slices_symMergeCmpFunc_api_Lsa_fn49 k_ a0 a1 a2 a3 = some r) (HF : Fits z w (L_a0 ++ F)) (ho_a0 : OwnS (kShr G k_T_api_Lsa) L_a0 A_a0 c_a0 a0),
  Calls Try.prog 74 [.slice A_a0 a0.length c_a0, .int .i64 a1, .int .i64 a2, .int .i64 a3, .func (.func 49) [].toArray [].toArray].toArray w fun e w' => ∃ (N : Hp) (M0 : Hp), e = .returned (.tuple #[]) ∧ Fits z w' (M0 ++ (N ++ F)) ∧ OwnS (kShr (N ++ G) k_T_api_Lsa) M0 A_a0 c_a0 r := by
 induction k_ with
 | zero => intro z w F G hG a0 A_a0 c_a0 L_a0 a1 a2 a3 r H HF ho_a0; cases H
 | succ k_ ih_ =>
  intro z w F G hG a0 A_a0 c_a0 L_a0 a1 a2 a3 r H HF ho_a0
  rw [f_slices_symMergeCmpFunc_api_Lsa_fn49] at H
  refine enter0 Try.func74 rfl Try.ntmps74 rfl (E := [(0, .slice A_a0 a0.length c_a0), (1, .int .i64 a1), (2, .int .i64 a2), (3, .int .i64 a3), (4, .func (.func 49) [].toArray [].toArray)]) rfl ?_
  refine cSeq (fun K1 hK1 => ?_)
  refine cSeq (fun K2 hK2 => ?_)
  refine cRgn [] trivial ?_
  refine sL (mv rfl) rfl ?_
  refine sL (mv rfl) rfl ?_
  refine sL (bSub rfl rfl) rfl ?_
  refine sL (bEql rfl rfl) rfl ?_
  refine lE ?_
  refine kN (?_)
  refine hK2 _ _ ?_
  by_cases c1 : (IntKind.i64.wrap (a2 - a1)) = 1
  ·replace H := itT c1 H
   refine cSet (i := 28) rfl (dT c1) ?_
   refine cT rfl ?_
   refine cSeq (fun K3 hK3 => ?_)
   refine cRgn [] trivial ?_
   refine sL (mv rfl) rfl ?_
   refine sL (asg rfl) rfl ?_
   refine lE ?_
   refine kN (?_)
   refine hK3 _ _ ?_
   refine cSeq (fun K4 hK4 => ?_)
   refine cRgn [] trivial ?_
   refine sL (mv rfl) rfl ?_
   refine sL (asg rfl) rfl ?_
   refine lE ?_
   refine kN (?_)
   refine hK4 _ _ ?_
   refine cSeq (fun K5 hK5 => ?_)
   replace H := bnd H; obtain ⟨y1, J8, Ho1⟩ := H
   refine cLoopB (f_slices_symMergeCmpFunc_api_Lsa_fn49.b0 a0 a1) (fun (s1 : Int × Int) a w => Env 220 [(0, .slice A_a0 a0.length c_a0), (1, .int .i64 a1), (2, .int .i64 a2), (3, .int .i64 a3), (4, .func (.func 49) [].toArray [].toArray), (10, .int .i64 s1.1), (11, .int .i64 s1.2)] a ∧ Fits z w (L_a0 ++ F)) J8 (fun a hE => ⟨hE.keep (Keep.cons rfl (Keep.cons rfl (Keep.cons rfl (Keep.cons rfl (Keep.cons rfl (Keep.cons rfl (Keep.cons rfl (Keep.nil)))))))), HF⟩) ?_ ?_
   ·rintro s1 a w7 y2 ⟨hE, HF7⟩ H Hx1
    refine go_ hE ?_
    refine cSeq (fun K14 hK14 => ?_)
    refine cSeq (fun K15 hK15 => ?_)
    refine cRgn [] trivial ?_
    refine sL (mv rfl) rfl ?_
    refine sL (mv rfl) rfl ?_
    refine sL (bLss rfl rfl) rfl ?_
    refine lE ?_
    refine kN (?_)
    refine hK15 _ _ ?_
    by_cases c46 : s1.1 < s1.2
    ·replace H := itT c46 H
     refine cSet (i := 33) rfl (dT c46) ?_
     refine cT rfl ?_
     refine cSkip ?_
     refine kN (?_)
     refine hK14 _ _ ?_
     refine cBlock ?_
     refine cSeq (fun K16 hK16 => ?_)
     refine cRgn [] trivial ?_
     refine sL (mv rfl) rfl ?_
     refine sL (mv rfl) rfl ?_
     refine sL (bAdd rfl rfl) rfl ?_
     refine sL (cvI rfl Try.underlying3 Try.underlying57) rfl ?_
     refine sL (bShr rfl rfl (by decide)) rfl ?_
     refine sL (cvI rfl Try.underlying57 Try.underlying3) rfl ?_
     refine sL (asg rfl) rfl ?_
     refine lE ?_
     refine kN (?_)
     refine hK16 _ _ ?_
     refine cSeq (fun K17 hK17 => ?_)
     refine cDraw mo_ HF7 rfl (fun w => Fits z w (L_a0 ++ F)) (fun w9 HF9 => ?_)
     refine hT 0 rfl (by kernel_rfl) (fun w_ hS_ => mv rfl) HF9 rfl rfl ?_
     refine hT 1 rfl (by kernel_rfl) (fun w_ hS_ => mv rfl) HF9 rfl rfl ?_
     refine hT 2 rfl (by kernel_rfl) (fun w_ hS_ => mv rfl) HF9 rfl rfl ?_
     replace H := chk H; obtain ⟨c57, H⟩ := H
     replace H := chk H; obtain ⟨c58, H⟩ := H
     obtain ⟨g6, o6, e22, rfl, hk11, q11⟩ := RdS.at_ ho_a0.rd c57 c58
     obtain ⟨A31, c59, A32, c60, A33, c61, rfl, hr31, hr32, hr33⟩ := rd_T_api_Lsa hk11
     refine hT 3 rfl (by kernel_rfl) (fun w_ hS_ => ia rfl rfl Try.underlying24 ti44 c57 c58) HF9 rfl rfl ?_
     refine hT 4 rfl (by kernel_rfl) (fun w_ hS_ => ldA rfl ti44 rfl rfl (fun j v hj => hS_.cells (sub_h) (q11 j v hj))) HF9 rfl rfl ?_
     refine hT 5 rfl (by kernel_rfl) (fun w_ hS_ => mv rfl) HF9 rfl rfl ?_
     refine hT 6 rfl (by kernel_rfl) (fun w_ hS_ => mv rfl) HF9 rfl rfl ?_
     replace H := chk H; obtain ⟨c62, H⟩ := H
     replace H := chk H; obtain ⟨c63, H⟩ := H
     obtain ⟨e24, hk12, q12⟩ := RdS.at' ho_a0.rd c62 c63
     obtain ⟨A34, c64, A35, c65, A36, c66, rfl, hr34, hr35, hr36⟩ := rd_T_api_Lsa hk12
     refine hT 7 rfl (by kernel_rfl) (fun w_ hS_ => ia rfl rfl Try.underlying24 ti44 c62 c63) HF9 rfl rfl ?_
     refine hT 8 rfl (by kernel_rfl) (fun w_ hS_ => ldA rfl ti44 rfl rfl (fun j v hj => hS_.cells (sub_h) (q12 j v hj))) HF9 rfl rfl ?_
     refine h1 9 (by kernel_rfl) rfl ?_
     replace H := bnd H; obtain ⟨t6, J6, H⟩ := H
     refine qCall rfl gd0 isf49 rfl rfl rfl (f_topo_live_1.ok (a0 := (rd a0 (IntKind.i64.wrap (shrI .u64 (IntKind.u64.wrap (IntKind.i64.wrap (s1.1 + s1.2))) 1)))) (a1 := (rd a0 a1)) (sub_a hG) J6 HF9 (sub_a hG) hr31 (sub_a hG) hr32 (sub_a hG) hr33 (sub_a hG) hr34 (sub_a hG) hr35 (sub_a hG) hr36) ?_
     rintro _ w10 ⟨rfl, HF10⟩
     refine ⟨_, rfl, HF10, ?_⟩
     refine hT 10 rfl (by kernel_rfl) (fun w_ hS_ => bLss rfl rfl) HF10 rfl rfl ?_
     refine hEnd (by kernel_rfl) ?_
     refine kN (?_)
     refine hK17 _ _ ?_
     by_cases c67 : t6 < 0
     ·replace H := itT c67 H
      refine cSet (i := 50) rfl (dT c67) ?_
      refine cT rfl ?_
      refine cRgn [] trivial ?_
      refine sL (mv rfl) rfl ?_
      refine sL (bAdd rfl rfl) rfl ?_
      refine sL (asg rfl) rfl ?_
      refine lE ?_
      refine jN (kN (?_))
      exact ofEnv (fun a hE => ⟨_, (Option.some.inj H).symm, ⟨hE.keep (Keep.cons rfl (Keep.cons rfl (Keep.cons rfl (Keep.cons rfl (Keep.cons rfl (Keep.cons rfl (Keep.cons rfl (Keep.nil)))))))), HF10⟩⟩)
     replace H := itF c67 H
     refine cSet (i := 50) rfl (dF c67) ?_
     refine cF rfl ?_
     refine cRgn [] trivial ?_
     refine sL (mv rfl) rfl ?_
     refine sL (asg rfl) rfl ?_
     refine lE ?_
     refine jN (kN (?_))
     exact ofEnv (fun a hE => ⟨_, (Option.some.inj H).symm, ⟨hE.keep (Keep.cons rfl (Keep.cons rfl (Keep.cons rfl (Keep.cons rfl (Keep.cons rfl (Keep.cons rfl (Keep.cons rfl (Keep.nil)))))))), HF10⟩⟩)
    replace H := itF c46 H
    refine cSet (i := 33) rfl (dF c46) ?_
    refine cF rfl ?_
    refine cExit ?_
    refine kX (kX (jX (kN (?_))))
    exact ofEnv (fun a hE => ⟨_, (Option.some.inj H).symm, ⟨hE.keep (Keep.cons rfl (Keep.cons rfl (Keep.cons rfl (Keep.cons rfl (Keep.cons rfl (Keep.cons rfl (Keep.cons rfl (Keep.nil)))))))), HF7⟩⟩)
   rintro s1 a w11 rfl ⟨hE, HF11⟩
   replace H := Ho1
   refine go_k hE ?_
   refine kN (?_)
   refine hK5 _ _ ?_
   refine cSeq (fun K18 hK18 => ?_)
   refine cSeq (fun K19 hK19 => ?_)
   refine cRgn [] trivial ?_
   refine sL (mv rfl) rfl ?_
   refine sL (asg rfl) rfl ?_
   refine lE ?_
   refine kN (?_)
   refine hK19 _ _ ?_
   replace H := bnd H; obtain ⟨y3, J7, Ho2⟩ := H
   refine cLoopB (f_slices_symMergeCmpFunc_api_Lsa_fn49.b1 s1) (fun (s2 : Int × (List T_api_Lsa)) a w => ∃ (L10 : Hp), Env 220 [(0, .slice A_a0 s2.2.length c_a0), (1, .int .i64 a1), (2, .int .i64 a2), (3, .int .i64 a3), (4, .func (.func 49) [].toArray [].toArray), (10, .int .i64 s1.1), (13, .int .i64 s2.1)] a ∧ Fits z w (L10 ++ F) ∧ OwnS (kShr G k_T_api_Lsa) L10 A_a0 c_a0 s2.2) J7 (fun a hE => ⟨L_a0, hE.keep (Keep.cons rfl (Keep.cons rfl (Keep.cons rfl (Keep.cons rfl (Keep.cons rfl (Keep.cons rfl (Keep.cons rfl (Keep.nil)))))))), HF11, ho_a0⟩) ?_ ?_
   ·rintro s2 a w22 y4 ⟨L10, hE, HF28, ho10⟩ H Hx2
    refine go_ hE ?_
    refine cSeq (fun K26 hK26 => ?_)
    refine cSeq (fun K27 hK27 => ?_)
    refine cRgn [] trivial ?_
    refine sL (mv rfl) rfl ?_
    refine sL (mv rfl) rfl ?_
    refine sL (bSub rfl rfl) rfl ?_
    refine sL (bLss rfl rfl) rfl ?_
    refine lE ?_
    refine kN (?_)
    refine hK27 _ _ ?_
    by_cases c138 : s2.1 < (IntKind.i64.wrap (s1.1 - 1))
    ·replace H := itT c138 H
     refine cSet (i := 58) rfl (dT c138) ?_
     refine cT rfl ?_
     refine cSkip ?_
     refine kN (?_)
     refine hK26 _ _ ?_
     refine cSeq (fun K28 hK28 => ?_)
     refine cBlock ?_
     refine cDraw mo_ HF28 rfl (fun w => Fits z w F) (fun w25 HF31 => ?_)
     have HF32 := HF31.sublist (sl_da sR)
     refine hT 0 rfl (by kernel_rfl) (fun w_ hS_ => mv rfl) HF32 rfl rfl ?_
     refine hT 1 rfl (by kernel_rfl) (fun w_ hS_ => mv rfl) HF32 rfl rfl ?_
     refine hT 2 rfl (by kernel_rfl) (fun w_ hS_ => mv rfl) HF32 rfl rfl ?_
     refine hT 3 rfl (by kernel_rfl) (fun w_ hS_ => mv rfl) HF32 rfl rfl ?_
     refine hT 4 rfl (by kernel_rfl) (fun w_ hS_ => bAdd rfl rfl) HF32 rfl rfl ?_
     refine hT 5 rfl (by kernel_rfl) (fun w_ hS_ => mv rfl) HF32 rfl rfl ?_
     refine hT 6 rfl (by kernel_rfl) (fun w_ hS_ => mv rfl) HF32 rfl rfl ?_
     refine hT 7 rfl (by kernel_rfl) (fun w_ hS_ => bAdd rfl rfl) HF32 rfl rfl ?_
     replace H := chk H; obtain ⟨c156, H⟩ := H
     replace H := chk H; obtain ⟨c157, H⟩ := H
     obtain ⟨g12, o12, e66, rfl, hk33, q33⟩ := RdS.at_ ho10.rd c156 c157
     obtain ⟨A97, c158, A98, c159, A99, c160, rfl, hr97, hr98, hr99⟩ := rd_T_api_Lsa hk33
     refine hT 8 rfl (by kernel_rfl) (fun w_ hS_ => ia rfl rfl Try.underlying24 ti44 c156 c157) HF32 rfl rfl ?_
     refine hT 10 rfl (by kernel_rfl) (fun w_ hS_ => mv rfl) HF32 rfl rfl ?_
     refine hT 11 rfl (by kernel_rfl) (fun w_ hS_ => mv rfl) HF32 rfl rfl ?_
     replace H := chk H; obtain ⟨c161, H⟩ := H
     replace H := chk H; obtain ⟨c162, H⟩ := H
     obtain ⟨e68, hk34, q34⟩ := RdS.at' ho10.rd c161 c162
     obtain ⟨A100, c163, A101, c164, A102, c165, rfl, hr100, hr101, hr102⟩ := rd_T_api_Lsa hk34
     refine hT 12 rfl (by kernel_rfl) (fun w_ hS_ => ia rfl rfl Try.underlying24 ti44 c161 c162) HF32 rfl rfl ?_
     refine h2 9 13 (by kernel_rfl) rfl rfl ?_ ?_
     ·refine qL rfl gd0 (ldA rfl ti44 rfl rfl (fun j v hj => HF31.cells (sub_h) (q33 j v hj))) rfl HF32 ?_
      refine h1 13 (by kernel_rfl) rfl ?_
      refine qL rfl gd0 (ldA rfl ti44 rfl rfl (fun j v hj => HF31.cells (sub_h) (q34 j v hj))) rfl HF32 ?_
      obtain ⟨e70, hk35, q35⟩ := RdS.at' ho10.rd c161 c162
      obtain ⟨A103, c166, A104, c167, A105, c168, rfl, hr103, hr104, hr105⟩ := rd_T_api_Lsa hk35
      refine hT 14 rfl (by kernel_rfl) (fun w_ hS_ => ia rfl rfl Try.underlying24 ti44 c161 c162) HF32 rfl rfl ?_
      refine h1 15 (by kernel_rfl) rfl ?_
      refine qS rfl gd0 (oStE (K := (kShr G k_T_api_Lsa)) (c := c_a0) (off := 0) (y' := (rd s2.2 (IntKind.i64.wrap (s2.1 + 1)))) shrS HF31 ho10 c161 c162 rfl rfl ti44 rfl (ones rfl) (Nat.le_of_ble_eq_true rfl) (fun ci hci => shrAll hci rfl (mk_T_api_Lsa (x := (rd s2.2 (IntKind.i64.wrap (s2.1 + 1)))) (hr97) (hr98) (hr99)))) ?_
      rintro w26 ⟨L13, HF33, ho13⟩
      have HF34 := HF33.sublist (sl_da sR)
      refine ⟨HF34, ?_⟩
      refine hSet (i := 0) (v := .slice (some ⟨g12, o12, none⟩) (setI s2.2 s2.1 (rd s2.2 (IntKind.i64.wrap (s2.1 + 1)))).length c_a0) rfl (by simp only [len_setI]) ?_
      refine hSet (i := 61) (v := .slice (some ⟨g12, o12, none⟩) (setI s2.2 s2.1 (rd s2.2 (IntKind.i64.wrap (s2.1 + 1)))).length c_a0) rfl (by simp only [len_setI]) ?_
      refine hSet (i := 63) (v := .slice (some ⟨g12, o12, none⟩) (setI s2.2 s2.1 (rd s2.2 (IntKind.i64.wrap (s2.1 + 1)))).length c_a0) rfl (by simp only [len_setI]) ?_
      refine hSet (i := 66) (v := .slice (some ⟨g12, o12, none⟩) (setI s2.2 s2.1 (rd s2.2 (IntKind.i64.wrap (s2.1 + 1)))).length c_a0) rfl (by simp only [len_setI]) ?_
      refine hSet (i := 71) (v := .slice (some ⟨g12, o12, none⟩) (setI s2.2 s2.1 (rd s2.2 (IntKind.i64.wrap (s2.1 + 1)))).length c_a0) rfl (by simp only [len_setI]) ?_
      replace H := chk H; obtain ⟨c169, H⟩ := H
      obtain ⟨e72, hk36, q36⟩ := RdS.at' ho13.rd c156 c169
      obtain ⟨A106, c170, A107, c171, A108, c172, rfl, hr106, hr107, hr108⟩ := rd_T_api_Lsa hk36
      refine hT 16 rfl (by kernel_rfl) (fun w_ hS_ => ia rfl rfl Try.underlying24 ti44 c156 c169) HF34 rfl rfl ?_
      refine h1 17 (by kernel_rfl) rfl ?_
      refine qS rfl gd0 (oStE (K := (kShr G k_T_api_Lsa)) (c := c_a0) (off := 0) (y' := (rd s2.2 s2.1)) shrS HF33 ho13 c156 c169 rfl rfl ti44 rfl (ones rfl) (Nat.le_of_ble_eq_true rfl) (fun ci hci => shrAll hci rfl (mk_T_api_Lsa (x := (rd s2.2 s2.1)) (hr100) (hr101) (hr102)))) ?_
      rintro w27 ⟨L14, HF35, ho14⟩
      have HF36 := HF35.sublist (sl_da sR)
      refine ⟨HF36, ?_⟩
      refine hSet (i := 0) (v := .slice (some ⟨g12, o12, none⟩) (setI (setI s2.2 s2.1 (rd s2.2 (IntKind.i64.wrap (s2.1 + 1)))) (IntKind.i64.wrap (s2.1 + 1)) (rd s2.2 s2.1)).length c_a0) rfl (by simp only [len_setI]) ?_
      refine hSet (i := 61) (v := .slice (some ⟨g12, o12, none⟩) (setI (setI s2.2 s2.1 (rd s2.2 (IntKind.i64.wrap (s2.1 + 1)))) (IntKind.i64.wrap (s2.1 + 1)) (rd s2.2 s2.1)).length c_a0) rfl (by simp only [len_setI]) ?_
      refine hSet (i := 63) (v := .slice (some ⟨g12, o12, none⟩) (setI (setI s2.2 s2.1 (rd s2.2 (IntKind.i64.wrap (s2.1 + 1)))) (IntKind.i64.wrap (s2.1 + 1)) (rd s2.2 s2.1)).length c_a0) rfl (by simp only [len_setI]) ?_
      refine hSet (i := 66) (v := .slice (some ⟨g12, o12, none⟩) (setI (setI s2.2 s2.1 (rd s2.2 (IntKind.i64.wrap (s2.1 + 1)))) (IntKind.i64.wrap (s2.1 + 1)) (rd s2.2 s2.1)).length c_a0) rfl (by simp only [len_setI]) ?_
      refine hSet (i := 71) (v := .slice (some ⟨g12, o12, none⟩) (setI (setI s2.2 s2.1 (rd s2.2 (IntKind.i64.wrap (s2.1 + 1)))) (IntKind.i64.wrap (s2.1 + 1)) (rd s2.2 s2.1)).length c_a0) rfl (by simp only [len_setI]) ?_
      refine hEnd (by kernel_rfl) ?_
      refine jN (kN (?_))
      refine hK28 _ _ ?_
      refine cRgn [] trivial ?_
      refine sL (mv rfl) rfl ?_
      refine sL (bAdd rfl rfl) rfl ?_
      refine sL (asg rfl) rfl ?_
      refine lE ?_
      refine kN (?_)
      exact ofEnv (fun a hE => ⟨_, (Option.some.inj H).symm, ⟨L14, hE.keep (Keep.cons rfl (Keep.cons rfl (Keep.cons rfl (Keep.cons rfl (Keep.cons rfl (Keep.cons rfl (Keep.cons rfl (Keep.nil)))))))), HF35, ho14⟩⟩)
     refine qL rfl gd0 (ldA rfl ti44 rfl rfl (fun j v hj => HF31.cells (sub_h) (q34 j v hj))) rfl HF32 ?_
     refine h1 9 (by kernel_rfl) rfl ?_
     refine qL rfl gd0 (ldA rfl ti44 rfl rfl (fun j v hj => HF31.cells (sub_h) (q33 j v hj))) rfl HF32 ?_
     obtain ⟨e70, hk35, q35⟩ := RdS.at' ho10.rd c161 c162
     obtain ⟨A103, c166, A104, c167, A105, c168, rfl, hr103, hr104, hr105⟩ := rd_T_api_Lsa hk35
     refine hT 14 rfl (by kernel_rfl) (fun w_ hS_ => ia rfl rfl Try.underlying24 ti44 c161 c162) HF32 rfl rfl ?_
     refine h1 15 (by kernel_rfl) rfl ?_
     refine qS rfl gd0 (oStE (K := (kShr G k_T_api_Lsa)) (c := c_a0) (off := 0) (y' := (rd s2.2 (IntKind.i64.wrap (s2.1 + 1)))) shrS HF31 ho10 c161 c162 rfl rfl ti44 rfl (ones rfl) (Nat.le_of_ble_eq_true rfl) (fun ci hci => shrAll hci rfl (mk_T_api_Lsa (x := (rd s2.2 (IntKind.i64.wrap (s2.1 + 1)))) (hr97) (hr98) (hr99)))) ?_
     rintro w26 ⟨L13, HF33, ho13⟩
     have HF34 := HF33.sublist (sl_da sR)
     refine ⟨HF34, ?_⟩
     refine hSet (i := 0) (v := .slice (some ⟨g12, o12, none⟩) (setI s2.2 s2.1 (rd s2.2 (IntKind.i64.wrap (s2.1 + 1)))).length c_a0) rfl (by simp only [len_setI]) ?_
     refine hSet (i := 61) (v := .slice (some ⟨g12, o12, none⟩) (setI s2.2 s2.1 (rd s2.2 (IntKind.i64.wrap (s2.1 + 1)))).length c_a0) rfl (by simp only [len_setI]) ?_
     refine hSet (i := 63) (v := .slice (some ⟨g12, o12, none⟩) (setI s2.2 s2.1 (rd s2.2 (IntKind.i64.wrap (s2.1 + 1)))).length c_a0) rfl (by simp only [len_setI]) ?_
     refine hSet (i := 66) (v := .slice (some ⟨g12, o12, none⟩) (setI s2.2 s2.1 (rd s2.2 (IntKind.i64.wrap (s2.1 + 1)))).length c_a0) rfl (by simp only [len_setI]) ?_
     refine hSet (i := 71) (v := .slice (some ⟨g12, o12, none⟩) (setI s2.2 s2.1 (rd s2.2 (IntKind.i64.wrap (s2.1 + 1)))).length c_a0) rfl (by simp only [len_setI]) ?_
     replace H := chk H; obtain ⟨c169, H⟩ := H
     obtain ⟨e72, hk36, q36⟩ := RdS.at' ho13.rd c156 c169
     obtain ⟨A106, c170, A107, c171, A108, c172, rfl, hr106, hr107, hr108⟩ := rd_T_api_Lsa hk36
     refine hT 16 rfl (by kernel_rfl) (fun w_ hS_ => ia rfl rfl Try.underlying24 ti44 c156 c169) HF34 rfl rfl ?_
     refine h1 17 (by kernel_rfl) rfl ?_
     refine qS rfl gd0 (oStE (K := (kShr G k_T_api_Lsa)) (c := c_a0) (off := 0) (y' := (rd s2.2 s2.1)) shrS HF33 ho13 c156 c169 rfl rfl ti44 rfl (ones rfl) (Nat.le_of_ble_eq_true rfl) (fun ci hci => shrAll hci rfl (mk_T_api_Lsa (x := (rd s2.2 s2.1)) (hr100) (hr101) (hr102)))) ?_
     rintro w27 ⟨L14, HF35, ho14⟩
     have HF36 := HF35.sublist (sl_da sR)
     refine ⟨HF36, ?_⟩
     refine hSet (i := 0) (v := .slice (some ⟨g12, o12, none⟩) (setI (setI s2.2 s2.1 (rd s2.2 (IntKind.i64.wrap (s2.1 + 1)))) (IntKind.i64.wrap (s2.1 + 1)) (rd s2.2 s2.1)).length c_a0) rfl (by simp only [len_setI]) ?_
     refine hSet (i := 61) (v := .slice (some ⟨g12, o12, none⟩) (setI (setI s2.2 s2.1 (rd s2.2 (IntKind.i64.wrap (s2.1 + 1)))) (IntKind.i64.wrap (s2.1 + 1)) (rd s2.2 s2.1)).length c_a0) rfl (by simp only [len_setI]) ?_
     refine hSet (i := 63) (v := .slice (some ⟨g12, o12, none⟩) (setI (setI s2.2 s2.1 (rd s2.2 (IntKind.i64.wrap (s2.1 + 1)))) (IntKind.i64.wrap (s2.1 + 1)) (rd s2.2 s2.1)).length c_a0) rfl (by simp only [len_setI]) ?_
     refine hSet (i := 66) (v := .slice (some ⟨g12, o12, none⟩) (setI (setI s2.2 s2.1 (rd s2.2 (IntKind.i64.wrap (s2.1 + 1)))) (IntKind.i64.wrap (s2.1 + 1)) (rd s2.2 s2.1)).length c_a0) rfl (by simp only [len_setI]) ?_
     refine hSet (i := 71) (v := .slice (some ⟨g12, o12, none⟩) (setI (setI s2.2 s2.1 (rd s2.2 (IntKind.i64.wrap (s2.1 + 1)))) (IntKind.i64.wrap (s2.1 + 1)) (rd s2.2 s2.1)).length c_a0) rfl (by simp only [len_setI]) ?_
     refine hEnd (by kernel_rfl) ?_
     refine jN (kN (?_))
     refine hK28 _ _ ?_
     refine cRgn [] trivial ?_
     refine sL (mv rfl) rfl ?_
     refine sL (bAdd rfl rfl) rfl ?_
     refine sL (asg rfl) rfl ?_
     refine lE ?_
     refine kN (?_)
     exact ofEnv (fun a hE => ⟨_, (Option.some.inj H).symm, ⟨L14, hE.keep (Keep.cons rfl (Keep.cons rfl (Keep.cons rfl (Keep.cons rfl (Keep.cons rfl (Keep.cons rfl (Keep.cons rfl (Keep.nil)))))))), HF35, ho14⟩⟩)
    replace H := itF c138 H
    refine cSet (i := 58) rfl (dF c138) ?_
    refine cF rfl ?_
    refine cExit ?_
    refine kX (kX (jX (kN (?_))))
    exact ofEnv (fun a hE => ⟨_, (Option.some.inj H).symm, ⟨L10, hE.keep (Keep.cons rfl (Keep.cons rfl (Keep.cons rfl (Keep.cons rfl (Keep.cons rfl (Keep.cons rfl (Keep.cons rfl (Keep.nil)))))))), HF28, ho10⟩⟩)
   rintro s2 a w28 rfl ⟨L10, hE, HF37, ho10⟩
   replace H := Ho2
   refine go_k hE ?_
   refine kN (?_)
   refine hK18 _ _ ?_
   refine cRet ?_
   obtain rfl := Option.some.inj H
   refine kR (?_)
   refine ret0 rfl ?_
   exact ⟨[], L10, rfl, HF37, ho10⟩
  replace H := itF c1 H
  refine cSet (i := 28) rfl (dF c1) ?_
  refine cF rfl ?_
  refine cSkip ?_
  refine kN (?_)
  refine hK1 _ _ ?_
  refine cSeq (fun K29 hK29 => ?_)
  refine cSeq (fun K30 hK30 => ?_)
  refine cRgn [] trivial ?_
  refine sL (mv rfl) rfl ?_
  refine sL (mv rfl) rfl ?_
  refine sL (bSub rfl rfl) rfl ?_
  refine sL (bEql rfl rfl) rfl ?_
  refine lE ?_
  refine kN (?_)
  refine hK30 _ _ ?_
  by_cases c173 : (IntKind.i64.wrap (a3 - a2)) = 1
  ·replace H := itT c173 H
   refine cSet (i := 80) rfl (dT c173) ?_
   refine cT rfl ?_
   refine cSeq (fun K31 hK31 => ?_)
   refine cRgn [] trivial ?_
   refine sL (mv rfl) rfl ?_
   refine sL (asg rfl) rfl ?_
   refine lE ?_
   refine kN (?_)
   refine hK31 _ _ ?_
   refine cSeq (fun K32 hK32 => ?_)
   refine cRgn [] trivial ?_
   refine sL (mv rfl) rfl ?_
   refine sL (asg rfl) rfl ?_
   refine lE ?_
   refine kN (?_)
   refine hK32 _ _ ?_
   refine cSeq (fun K33 hK33 => ?_)
   replace H := bnd H; obtain ⟨y5, J16, Ho3⟩ := H
   refine cLoopB (f_slices_symMergeCmpFunc_api_Lsa_fn49.b2 a0 a2) (fun (s3 : Int × Int) a w => Env 220 [(0, .slice A_a0 a0.length c_a0), (1, .int .i64 a1), (2, .int .i64 a2), (3, .int .i64 a3), (4, .func (.func 49) [].toArray [].toArray), (14, .int .i64 s3.1), (15, .int .i64 s3.2)] a ∧ Fits z w (L_a0 ++ F)) J16 (fun a hE => ⟨hE.keep (Keep.cons rfl (Keep.cons rfl (Keep.cons rfl (Keep.cons rfl (Keep.cons rfl (Keep.cons rfl (Keep.cons rfl (Keep.nil)))))))), HF⟩) ?_ ?_
   ·rintro s3 a w35 y6 ⟨hE, HF44⟩ H Hx3
    refine go_ hE ?_
    refine cSeq (fun K42 hK42 => ?_)
    refine cSeq (fun K43 hK43 => ?_)
    refine cRgn [] trivial ?_
    refine sL (mv rfl) rfl ?_
    refine sL (mv rfl) rfl ?_
    refine sL (bLss rfl rfl) rfl ?_
    refine lE ?_
    refine kN (?_)
    refine hK43 _ _ ?_
    by_cases c218 : s3.1 < s3.2
    ·replace H := itT c218 H
     refine cSet (i := 85) rfl (dT c218) ?_
     refine cT rfl ?_
     refine cSkip ?_
     refine kN (?_)
     refine hK42 _ _ ?_
     refine cBlock ?_
     refine cSeq (fun K44 hK44 => ?_)
     refine cRgn [] trivial ?_
     refine sL (mv rfl) rfl ?_
     refine sL (mv rfl) rfl ?_
     refine sL (bAdd rfl rfl) rfl ?_
     refine sL (cvI rfl Try.underlying3 Try.underlying57) rfl ?_
     refine sL (bShr rfl rfl (by decide)) rfl ?_
     refine sL (cvI rfl Try.underlying57 Try.underlying3) rfl ?_
     refine sL (asg rfl) rfl ?_
     refine lE ?_
     refine kN (?_)
     refine hK44 _ _ ?_
     refine cSeq (fun K45 hK45 => ?_)
     refine cDraw mo_ HF44 rfl (fun w => Fits z w (L_a0 ++ F)) (fun w37 HF46 => ?_)
     refine hT 0 rfl (by kernel_rfl) (fun w_ hS_ => mv rfl) HF46 rfl rfl ?_
     refine hT 1 rfl (by kernel_rfl) (fun w_ hS_ => mv rfl) HF46 rfl rfl ?_
     refine hT 2 rfl (by kernel_rfl) (fun w_ hS_ => mv rfl) HF46 rfl rfl ?_
     replace H := chk H; obtain ⟨c229, H⟩ := H
     replace H := chk H; obtain ⟨c230, H⟩ := H
     obtain ⟨g18, o18, e94, rfl, hk47, q47⟩ := RdS.at_ ho_a0.rd c229 c230
     obtain ⟨A139, c231, A140, c232, A141, c233, rfl, hr139, hr140, hr141⟩ := rd_T_api_Lsa hk47
     refine hT 3 rfl (by kernel_rfl) (fun w_ hS_ => ia rfl rfl Try.underlying24 ti44 c229 c230) HF46 rfl rfl ?_
     refine hT 4 rfl (by kernel_rfl) (fun w_ hS_ => ldA rfl ti44 rfl rfl (fun j v hj => hS_.cells (sub_h) (q47 j v hj))) HF46 rfl rfl ?_
     refine hT 5 rfl (by kernel_rfl) (fun w_ hS_ => mv rfl) HF46 rfl rfl ?_
     refine hT 6 rfl (by kernel_rfl) (fun w_ hS_ => mv rfl) HF46 rfl rfl ?_
     replace H := chk H; obtain ⟨c234, H⟩ := H
     replace H := chk H; obtain ⟨c235, H⟩ := H
     obtain ⟨e96, hk48, q48⟩ := RdS.at' ho_a0.rd c234 c235
     obtain ⟨A142, c236, A143, c237, A144, c238, rfl, hr142, hr143, hr144⟩ := rd_T_api_Lsa hk48
     refine hT 7 rfl (by kernel_rfl) (fun w_ hS_ => ia rfl rfl Try.underlying24 ti44 c234 c235) HF46 rfl rfl ?_
     refine hT 8 rfl (by kernel_rfl) (fun w_ hS_ => ldA rfl ti44 rfl rfl (fun j v hj => hS_.cells (sub_h) (q48 j v hj))) HF46 rfl rfl ?_
     refine h1 9 (by kernel_rfl) rfl ?_
     replace H := bnd H; obtain ⟨t12, J14, H⟩ := H
     refine qCall rfl gd0 isf49 rfl rfl rfl (f_topo_live_1.ok (a0 := (rd a0 a2)) (a1 := (rd a0 (IntKind.i64.wrap (shrI .u64 (IntKind.u64.wrap (IntKind.i64.wrap (s3.1 + s3.2))) 1)))) (sub_a hG) J14 HF46 (sub_a hG) hr139 (sub_a hG) hr140 (sub_a hG) hr141 (sub_a hG) hr142 (sub_a hG) hr143 (sub_a hG) hr144) ?_
     rintro _ w38 ⟨rfl, HF47⟩
     refine ⟨_, rfl, HF47, ?_⟩
     refine hT 10 rfl (by kernel_rfl) (fun w_ hS_ => bLss rfl rfl) HF47 rfl rfl ?_
     refine hT 11 rfl (by kernel_rfl) (fun w_ hS_ => uNot rfl) HF47 rfl rfl ?_
     refine hEnd (by kernel_rfl) ?_
     refine kN (?_)
     refine hK45 _ _ ?_
     by_cases c239 : t12 < 0
     ·replace H := itT c239 H
      refine cSet (i := 103) rfl (nF c239) ?_
      refine cF rfl ?_
      refine cRgn [] trivial ?_
      refine sL (mv rfl) rfl ?_
      refine sL (asg rfl) rfl ?_
      refine lE ?_
      refine jN (kN (?_))
      exact ofEnv (fun a hE => ⟨_, (Option.some.inj H).symm, ⟨hE.keep (Keep.cons rfl (Keep.cons rfl (Keep.cons rfl (Keep.cons rfl (Keep.cons rfl (Keep.cons rfl (Keep.cons rfl (Keep.nil)))))))), HF47⟩⟩)
     replace H := itF c239 H
     refine cSet (i := 103) rfl (nT c239) ?_
     refine cT rfl ?_
     refine cRgn [] trivial ?_
     refine sL (mv rfl) rfl ?_
     refine sL (bAdd rfl rfl) rfl ?_
     refine sL (asg rfl) rfl ?_
     refine lE ?_
     refine jN (kN (?_))
     exact ofEnv (fun a hE => ⟨_, (Option.some.inj H).symm, ⟨hE.keep (Keep.cons rfl (Keep.cons rfl (Keep.cons rfl (Keep.cons rfl (Keep.cons rfl (Keep.cons rfl (Keep.cons rfl (Keep.nil)))))))), HF47⟩⟩)
    replace H := itF c218 H
    refine cSet (i := 85) rfl (dF c218) ?_
    refine cF rfl ?_
    refine cExit ?_
    refine kX (kX (jX (kN (?_))))
    exact ofEnv (fun a hE => ⟨_, (Option.some.inj H).symm, ⟨hE.keep (Keep.cons rfl (Keep.cons rfl (Keep.cons rfl (Keep.cons rfl (Keep.cons rfl (Keep.cons rfl (Keep.cons rfl (Keep.nil)))))))), HF44⟩⟩)
   rintro s3 a w39 rfl ⟨hE, HF48⟩
   replace H := Ho3
   refine go_k hE ?_
   refine kN (?_)
   refine hK33 _ _ ?_
   refine cSeq (fun K46 hK46 => ?_)
   refine cSeq (fun K47 hK47 => ?_)
   refine cRgn [] trivial ?_
   refine sL (mv rfl) rfl ?_
   refine sL (asg rfl) rfl ?_
   refine lE ?_
   refine kN (?_)
   refine hK47 _ _ ?_
   replace H := bnd H; obtain ⟨y7, J15, Ho4⟩ := H
   refine cLoopB (f_slices_symMergeCmpFunc_api_Lsa_fn49.b3 s3) (fun (s4 : Int × (List T_api_Lsa)) a w => ∃ (L24 : Hp), Env 220 [(0, .slice A_a0 s4.2.length c_a0), (1, .int .i64 a1), (2, .int .i64 a2), (3, .int .i64 a3), (4, .func (.func 49) [].toArray [].toArray), (14, .int .i64 s3.1), (17, .int .i64 s4.1)] a ∧ Fits z w (L24 ++ F) ∧ OwnS (kShr G k_T_api_Lsa) L24 A_a0 c_a0 s4.2) J15 (fun a hE => ⟨L_a0, hE.keep (Keep.cons rfl (Keep.cons rfl (Keep.cons rfl (Keep.cons rfl (Keep.cons rfl (Keep.cons rfl (Keep.cons rfl (Keep.nil)))))))), HF48, ho_a0⟩) ?_ ?_
   ·rintro s4 a w50 y8 ⟨L24, hE, HF65, ho24⟩ H Hx4
    refine go_ hE ?_
    refine cSeq (fun K54 hK54 => ?_)
    refine cSeq (fun K55 hK55 => ?_)
    refine cRgn [] trivial ?_
    refine sL (mv rfl) rfl ?_
    refine sL (mv rfl) rfl ?_
    refine sL (bGtr rfl rfl) rfl ?_
    refine lE ?_
    refine kN (?_)
    refine hK55 _ _ ?_
    by_cases c310 : s3.1 < s4.1
    ·replace H := itT c310 H
     refine cSet (i := 110) rfl (dT c310) ?_
     refine cT rfl ?_
     refine cSkip ?_
     refine kN (?_)
     refine hK54 _ _ ?_
     refine cSeq (fun K56 hK56 => ?_)
     refine cBlock ?_
     refine cDraw mo_ HF65 rfl (fun w => Fits z w F) (fun w53 HF68 => ?_)
     have HF69 := HF68.sublist (sl_da sR)
     refine hT 0 rfl (by kernel_rfl) (fun w_ hS_ => mv rfl) HF69 rfl rfl ?_
     refine hT 1 rfl (by kernel_rfl) (fun w_ hS_ => mv rfl) HF69 rfl rfl ?_
     refine hT 2 rfl (by kernel_rfl) (fun w_ hS_ => mv rfl) HF69 rfl rfl ?_
     refine hT 3 rfl (by kernel_rfl) (fun w_ hS_ => mv rfl) HF69 rfl rfl ?_
     refine hT 4 rfl (by kernel_rfl) (fun w_ hS_ => bSub rfl rfl) HF69 rfl rfl ?_
     refine hT 5 rfl (by kernel_rfl) (fun w_ hS_ => mv rfl) HF69 rfl rfl ?_
     refine hT 6 rfl (by kernel_rfl) (fun w_ hS_ => mv rfl) HF69 rfl rfl ?_
     refine hT 7 rfl (by kernel_rfl) (fun w_ hS_ => bSub rfl rfl) HF69 rfl rfl ?_
     replace H := chk H; obtain ⟨c328, H⟩ := H
     replace H := chk H; obtain ⟨c329, H⟩ := H
     obtain ⟨g24, o24, e138, rfl, hk69, q69⟩ := RdS.at_ ho24.rd c328 c329
     obtain ⟨A205, c330, A206, c331, A207, c332, rfl, hr205, hr206, hr207⟩ := rd_T_api_Lsa hk69
     refine hT 8 rfl (by kernel_rfl) (fun w_ hS_ => ia rfl rfl Try.underlying24 ti44 c328 c329) HF69 rfl rfl ?_
     refine hT 10 rfl (by kernel_rfl) (fun w_ hS_ => mv rfl) HF69 rfl rfl ?_
     refine hT 11 rfl (by kernel_rfl) (fun w_ hS_ => mv rfl) HF69 rfl rfl ?_
     replace H := chk H; obtain ⟨c333, H⟩ := H
     replace H := chk H; obtain ⟨c334, H⟩ := H
     obtain ⟨e140, hk70, q70⟩ := RdS.at' ho24.rd c333 c334
     obtain ⟨A208, c335, A209, c336, A210, c337, rfl, hr208, hr209, hr210⟩ := rd_T_api_Lsa hk70
     refine hT 12 rfl (by kernel_rfl) (fun w_ hS_ => ia rfl rfl Try.underlying24 ti44 c333 c334) HF69 rfl rfl ?_
     refine h2 9 13 (by kernel_rfl) rfl rfl ?_ ?_
     ·refine qL rfl gd0 (ldA rfl ti44 rfl rfl (fun j v hj => HF68.cells (sub_h) (q69 j v hj))) rfl HF69 ?_
      refine h1 13 (by kernel_rfl) rfl ?_
      refine qL rfl gd0 (ldA rfl ti44 rfl rfl (fun j v hj => HF68.cells (sub_h) (q70 j v hj))) rfl HF69 ?_
      obtain ⟨e142, hk71, q71⟩ := RdS.at' ho24.rd c333 c334
      obtain ⟨A211, c338, A212, c339, A213, c340, rfl, hr211, hr212, hr213⟩ := rd_T_api_Lsa hk71
      refine hT 14 rfl (by kernel_rfl) (fun w_ hS_ => ia rfl rfl Try.underlying24 ti44 c333 c334) HF69 rfl rfl ?_
      refine h1 15 (by kernel_rfl) rfl ?_
      refine qS rfl gd0 (oStE (K := (kShr G k_T_api_Lsa)) (c := c_a0) (off := 0) (y' := (rd s4.2 (IntKind.i64.wrap (s4.1 - 1)))) shrS HF68 ho24 c333 c334 rfl rfl ti44 rfl (ones rfl) (Nat.le_of_ble_eq_true rfl) (fun ci hci => shrAll hci rfl (mk_T_api_Lsa (x := (rd s4.2 (IntKind.i64.wrap (s4.1 - 1)))) (hr205) (hr206) (hr207)))) ?_
      rintro w54 ⟨L27, HF70, ho27⟩
      have HF71 := HF70.sublist (sl_da sR)
      refine ⟨HF71, ?_⟩
      refine hSet (i := 0) (v := .slice (some ⟨g24, o24, none⟩) (setI s4.2 s4.1 (rd s4.2 (IntKind.i64.wrap (s4.1 - 1)))).length c_a0) rfl (by simp only [len_setI]) ?_
      refine hSet (i := 113) (v := .slice (some ⟨g24, o24, none⟩) (setI s4.2 s4.1 (rd s4.2 (IntKind.i64.wrap (s4.1 - 1)))).length c_a0) rfl (by simp only [len_setI]) ?_
      refine hSet (i := 115) (v := .slice (some ⟨g24, o24, none⟩) (setI s4.2 s4.1 (rd s4.2 (IntKind.i64.wrap (s4.1 - 1)))).length c_a0) rfl (by simp only [len_setI]) ?_
      refine hSet (i := 118) (v := .slice (some ⟨g24, o24, none⟩) (setI s4.2 s4.1 (rd s4.2 (IntKind.i64.wrap (s4.1 - 1)))).length c_a0) rfl (by simp only [len_setI]) ?_
      refine hSet (i := 123) (v := .slice (some ⟨g24, o24, none⟩) (setI s4.2 s4.1 (rd s4.2 (IntKind.i64.wrap (s4.1 - 1)))).length c_a0) rfl (by simp only [len_setI]) ?_
      replace H := chk H; obtain ⟨c341, H⟩ := H
      obtain ⟨e144, hk72, q72⟩ := RdS.at' ho27.rd c328 c341
      obtain ⟨A214, c342, A215, c343, A216, c344, rfl, hr214, hr215, hr216⟩ := rd_T_api_Lsa hk72
      refine hT 16 rfl (by kernel_rfl) (fun w_ hS_ => ia rfl rfl Try.underlying24 ti44 c328 c341) HF71 rfl rfl ?_
      refine h1 17 (by kernel_rfl) rfl ?_
      refine qS rfl gd0 (oStE (K := (kShr G k_T_api_Lsa)) (c := c_a0) (off := 0) (y' := (rd s4.2 s4.1)) shrS HF70 ho27 c328 c341 rfl rfl ti44 rfl (ones rfl) (Nat.le_of_ble_eq_true rfl) (fun ci hci => shrAll hci rfl (mk_T_api_Lsa (x := (rd s4.2 s4.1)) (hr208) (hr209) (hr210)))) ?_
      rintro w55 ⟨L28, HF72, ho28⟩
      have HF73 := HF72.sublist (sl_da sR)
      refine ⟨HF73, ?_⟩
      refine hSet (i := 0) (v := .slice (some ⟨g24, o24, none⟩) (setI (setI s4.2 s4.1 (rd s4.2 (IntKind.i64.wrap (s4.1 - 1)))) (IntKind.i64.wrap (s4.1 - 1)) (rd s4.2 s4.1)).length c_a0) rfl (by simp only [len_setI]) ?_
      refine hSet (i := 113) (v := .slice (some ⟨g24, o24, none⟩) (setI (setI s4.2 s4.1 (rd s4.2 (IntKind.i64.wrap (s4.1 - 1)))) (IntKind.i64.wrap (s4.1 - 1)) (rd s4.2 s4.1)).length c_a0) rfl (by simp only [len_setI]) ?_
      refine hSet (i := 115) (v := .slice (some ⟨g24, o24, none⟩) (setI (setI s4.2 s4.1 (rd s4.2 (IntKind.i64.wrap (s4.1 - 1)))) (IntKind.i64.wrap (s4.1 - 1)) (rd s4.2 s4.1)).length c_a0) rfl (by simp only [len_setI]) ?_
      refine hSet (i := 118) (v := .slice (some ⟨g24, o24, none⟩) (setI (setI s4.2 s4.1 (rd s4.2 (IntKind.i64.wrap (s4.1 - 1)))) (IntKind.i64.wrap (s4.1 - 1)) (rd s4.2 s4.1)).length c_a0) rfl (by simp only [len_setI]) ?_
      refine hSet (i := 123) (v := .slice (some ⟨g24, o24, none⟩) (setI (setI s4.2 s4.1 (rd s4.2 (IntKind.i64.wrap (s4.1 - 1)))) (IntKind.i64.wrap (s4.1 - 1)) (rd s4.2 s4.1)).length c_a0) rfl (by simp only [len_setI]) ?_
      refine hEnd (by kernel_rfl) ?_
      refine jN (kN (?_))
      refine hK56 _ _ ?_
      refine cRgn [] trivial ?_
      refine sL (mv rfl) rfl ?_
      refine sL (bSub rfl rfl) rfl ?_
      refine sL (asg rfl) rfl ?_
      refine lE ?_
      refine kN (?_)
      exact ofEnv (fun a hE => ⟨_, (Option.some.inj H).symm, ⟨L28, hE.keep (Keep.cons rfl (Keep.cons rfl (Keep.cons rfl (Keep.cons rfl (Keep.cons rfl (Keep.cons rfl (Keep.cons rfl (Keep.nil)))))))), HF72, ho28⟩⟩)
     refine qL rfl gd0 (ldA rfl ti44 rfl rfl (fun j v hj => HF68.cells (sub_h) (q70 j v hj))) rfl HF69 ?_
     refine h1 9 (by kernel_rfl) rfl ?_
     refine qL rfl gd0 (ldA rfl ti44 rfl rfl (fun j v hj => HF68.cells (sub_h) (q69 j v hj))) rfl HF69 ?_
     obtain ⟨e142, hk71, q71⟩ := RdS.at' ho24.rd c333 c334
     obtain ⟨A211, c338, A212, c339, A213, c340, rfl, hr211, hr212, hr213⟩ := rd_T_api_Lsa hk71
     refine hT 14 rfl (by kernel_rfl) (fun w_ hS_ => ia rfl rfl Try.underlying24 ti44 c333 c334) HF69 rfl rfl ?_
     refine h1 15 (by kernel_rfl) rfl ?_
     refine qS rfl gd0 (oStE (K := (kShr G k_T_api_Lsa)) (c := c_a0) (off := 0) (y' := (rd s4.2 (IntKind.i64.wrap (s4.1 - 1)))) shrS HF68 ho24 c333 c334 rfl rfl ti44 rfl (ones rfl) (Nat.le_of_ble_eq_true rfl) (fun ci hci => shrAll hci rfl (mk_T_api_Lsa (x := (rd s4.2 (IntKind.i64.wrap (s4.1 - 1)))) (hr205) (hr206) (hr207)))) ?_
     rintro w54 ⟨L27, HF70, ho27⟩
     have HF71 := HF70.sublist (sl_da sR)
     refine ⟨HF71, ?_⟩
     refine hSet (i := 0) (v := .slice (some ⟨g24, o24, none⟩) (setI s4.2 s4.1 (rd s4.2 (IntKind.i64.wrap (s4.1 - 1)))).length c_a0) rfl (by simp only [len_setI]) ?_
     refine hSet (i := 113) (v := .slice (some ⟨g24, o24, none⟩) (setI s4.2 s4.1 (rd s4.2 (IntKind.i64.wrap (s4.1 - 1)))).length c_a0) rfl (by simp only [len_setI]) ?_
     refine hSet (i := 115) (v := .slice (some ⟨g24, o24, none⟩) (setI s4.2 s4.1 (rd s4.2 (IntKind.i64.wrap (s4.1 - 1)))).length c_a0) rfl (by simp only [len_setI]) ?_
     refine hSet (i := 118) (v := .slice (some ⟨g24, o24, none⟩) (setI s4.2 s4.1 (rd s4.2 (IntKind.i64.wrap (s4.1 - 1)))).length c_a0) rfl (by simp only [len_setI]) ?_
     refine hSet (i := 123) (v := .slice (some ⟨g24, o24, none⟩) (setI s4.2 s4.1 (rd s4.2 (IntKind.i64.wrap (s4.1 - 1)))).length c_a0) rfl (by simp only [len_setI]) ?_
     replace H := chk H; obtain ⟨c341, H⟩ := H
     obtain ⟨e144, hk72, q72⟩ := RdS.at' ho27.rd c328 c341
     obtain ⟨A214, c342, A215, c343, A216, c344, rfl, hr214, hr215, hr216⟩ := rd_T_api_Lsa hk72
     refine hT 16 rfl (by kernel_rfl) (fun w_ hS_ => ia rfl rfl Try.underlying24 ti44 c328 c341) HF71 rfl rfl ?_
     refine h1 17 (by kernel_rfl) rfl ?_
     refine qS rfl gd0 (oStE (K := (kShr G k_T_api_Lsa)) (c := c_a0) (off := 0) (y' := (rd s4.2 s4.1)) shrS HF70 ho27 c328 c341 rfl rfl ti44 rfl (ones rfl) (Nat.le_of_ble_eq_true rfl) (fun ci hci => shrAll hci rfl (mk_T_api_Lsa (x := (rd s4.2 s4.1)) (hr208) (hr209) (hr210)))) ?_
     rintro w55 ⟨L28, HF72, ho28⟩
     have HF73 := HF72.sublist (sl_da sR)
     refine ⟨HF73, ?_⟩
     refine hSet (i := 0) (v := .slice (some ⟨g24, o24, none⟩) (setI (setI s4.2 s4.1 (rd s4.2 (IntKind.i64.wrap (s4.1 - 1)))) (IntKind.i64.wrap (s4.1 - 1)) (rd s4.2 s4.1)).length c_a0) rfl (by simp only [len_setI]) ?_
     refine hSet (i := 113) (v := .slice (some ⟨g24, o24, none⟩) (setI (setI s4.2 s4.1 (rd s4.2 (IntKind.i64.wrap (s4.1 - 1)))) (IntKind.i64.wrap (s4.1 - 1)) (rd s4.2 s4.1)).length c_a0) rfl (by simp only [len_setI]) ?_
     refine hSet (i := 115) (v := .slice (some ⟨g24, o24, none⟩) (setI (setI s4.2 s4.1 (rd s4.2 (IntKind.i64.wrap (s4.1 - 1)))) (IntKind.i64.wrap (s4.1 - 1)) (rd s4.2 s4.1)).length c_a0) rfl (by simp only [len_setI]) ?_
     refine hSet (i := 118) (v := .slice (some ⟨g24, o24, none⟩) (setI (setI s4.2 s4.1 (rd s4.2 (IntKind.i64.wrap (s4.1 - 1)))) (IntKind.i64.wrap (s4.1 - 1)) (rd s4.2 s4.1)).length c_a0) rfl (by simp only [len_setI]) ?_
     refine hSet (i := 123) (v := .slice (some ⟨g24, o24, none⟩) (setI (setI s4.2 s4.1 (rd s4.2 (IntKind.i64.wrap (s4.1 - 1)))) (IntKind.i64.wrap (s4.1 - 1)) (rd s4.2 s4.1)).length c_a0) rfl (by simp only [len_setI]) ?_
     refine hEnd (by kernel_rfl) ?_
     refine jN (kN (?_))
     refine hK56 _ _ ?_
     refine cRgn [] trivial ?_
     refine sL (mv rfl) rfl ?_
     refine sL (bSub rfl rfl) rfl ?_
     refine sL (asg rfl) rfl ?_
     refine lE ?_
     refine kN (?_)
     exact ofEnv (fun a hE => ⟨_, (Option.some.inj H).symm, ⟨L28, hE.keep (Keep.cons rfl (Keep.cons rfl (Keep.cons rfl (Keep.cons rfl (Keep.cons rfl (Keep.cons rfl (Keep.cons rfl (Keep.nil)))))))), HF72, ho28⟩⟩)
    replace H := itF c310 H
    refine cSet (i := 110) rfl (dF c310) ?_
    refine cF rfl ?_
    refine cExit ?_
    refine kX (kX (jX (kN (?_))))
    exact ofEnv (fun a hE => ⟨_, (Option.some.inj H).symm, ⟨L24, hE.keep (Keep.cons rfl (Keep.cons rfl (Keep.cons rfl (Keep.cons rfl (Keep.cons rfl (Keep.cons rfl (Keep.cons rfl (Keep.nil)))))))), HF65, ho24⟩⟩)
   rintro s4 a w56 rfl ⟨L24, hE, HF74, ho24⟩
   replace H := Ho4
   refine go_k hE ?_
   refine kN (?_)
   refine hK46 _ _ ?_
   refine cRet ?_
   obtain rfl := Option.some.inj H
   refine kR (?_)
   refine ret0 rfl ?_
   exact ⟨[], L24, rfl, HF74, ho24⟩
  replace H := itF c173 H
  refine cSet (i := 80) rfl (dF c173) ?_
  refine cF rfl ?_
  refine cSkip ?_
  refine kN (?_)
  refine hK29 _ _ ?_
  refine cSeq (fun K57 hK57 => ?_)
  refine cRgn [] trivial ?_
  refine sL (mv rfl) rfl ?_
  refine sL (mv rfl) rfl ?_
  refine sL (bAdd rfl rfl) rfl ?_
  refine sL (cvI rfl Try.underlying3 Try.underlying57) rfl ?_
  refine sL (bShr rfl rfl (by decide)) rfl ?_
  refine sL (cvI rfl Try.underlying57 Try.underlying3) rfl ?_
  refine sL (asg rfl) rfl ?_
  refine lE ?_
  refine kN (?_)
  refine hK57 _ _ ?_
  refine cSeq (fun K58 hK58 => ?_)
  refine cRgn [] trivial ?_
  refine sL (mv rfl) rfl ?_
  refine sL (mv rfl) rfl ?_
  refine sL (bAdd rfl rfl) rfl ?_
  refine sL (asg rfl) rfl ?_
  refine lE ?_
  refine kN (?_)
  refine hK58 _ _ ?_
  refine cSeq (fun K59 hK59 => ?_)
  refine cRgn [] trivial ?_
  refine sL (asg rfl) rfl ?_
  refine sL (asg rfl) rfl ?_
  refine lE ?_
  refine kN (?_)
  refine hK59 _ _ ?_
  refine cSeq (fun K60 hK60 => ?_)
  refine cSeq (fun K61 hK61 => ?_)
  refine cRgn [] trivial ?_
  refine sL (mv rfl) rfl ?_
  refine sL (mv rfl) rfl ?_
  refine sL (bGtr rfl rfl) rfl ?_
  refine lE ?_
  refine kN (?_)
  refine hK61 _ _ ?_
  replace H := bnd H; obtain ⟨y9, H, Ho5⟩ := H
  refine cJoin (y := y9) (fun (s5 : Int × Int) a w => Env 220 [(0, .slice A_a0 a0.length c_a0), (1, .int .i64 a1), (2, .int .i64 a2), (3, .int .i64 a3), (4, .func (.func 49) [].toArray [].toArray), (18, .int .i64 (IntKind.i64.wrap (shrI .u64 (IntKind.u64.wrap (IntKind.i64.wrap (a1 + a3))) 1))), (19, .int .i64 (IntKind.i64.wrap ((IntKind.i64.wrap (shrI .u64 (IntKind.u64.wrap (IntKind.i64.wrap (a1 + a3))) 1)) + a2))), (20, .int .i64 s5.1), (21, .int .i64 s5.2)] a ∧ Fits z w (L_a0 ++ F)) ?_ ?_
  ·by_cases c346 : (IntKind.i64.wrap (shrI .u64 (IntKind.u64.wrap (IntKind.i64.wrap (a1 + a3))) 1)) < a2
   ·replace H := itT c346 H
    refine cSet (i := 140) rfl (dT c346) ?_
    refine cT rfl ?_
    refine cSeq (fun K64 hK64 => ?_)
    refine cRgn [] trivial ?_
    refine sL (mv rfl) rfl ?_
    refine sL (mv rfl) rfl ?_
    refine sL (bSub rfl rfl) rfl ?_
    refine sL (asg rfl) rfl ?_
    refine lE ?_
    refine kN (?_)
    refine hK64 _ _ ?_
    refine cRgn [] trivial ?_
    refine sL (mv rfl) rfl ?_
    refine sL (asg rfl) rfl ?_
    refine lE ?_
    refine kN (?_)
    exact ofEnv (fun a hE => ⟨_, (Option.some.inj H).symm, ⟨hE.keep (Keep.cons rfl (Keep.cons rfl (Keep.cons rfl (Keep.cons rfl (Keep.cons rfl (Keep.cons rfl (Keep.cons rfl (Keep.cons rfl (Keep.cons rfl (Keep.nil)))))))))), HF⟩⟩)
   replace H := itF c346 H
   refine cSet (i := 140) rfl (dF c346) ?_
   refine cF rfl ?_
   refine cSeq (fun K65 hK65 => ?_)
   refine cRgn [] trivial ?_
   refine sL (mv rfl) rfl ?_
   refine sL (asg rfl) rfl ?_
   refine lE ?_
   refine kN (?_)
   refine hK65 _ _ ?_
   refine cRgn [] trivial ?_
   refine sL (mv rfl) rfl ?_
   refine sL (asg rfl) rfl ?_
   refine lE ?_
   refine kN (?_)
   exact ofEnv (fun a hE => ⟨_, (Option.some.inj H).symm, ⟨hE.keep (Keep.cons rfl (Keep.cons rfl (Keep.cons rfl (Keep.cons rfl (Keep.cons rfl (Keep.cons rfl (Keep.cons rfl (Keep.cons rfl (Keep.cons rfl (Keep.nil)))))))))), HF⟩⟩)
  rintro s5 a w57 rfl ⟨hE, HF75⟩
  replace H := Ho5
  refine go_k hE ?_
  refine kN (?_)
  refine hK60 _ _ ?_
  refine cSeq (fun K66 hK66 => ?_)
  refine cRgn [] trivial ?_
  refine sL (mv rfl) rfl ?_
  refine sL (bSub rfl rfl) rfl ?_
  refine sL (asg rfl) rfl ?_
  refine lE ?_
  refine kN (?_)
  refine hK66 _ _ ?_
  refine cSeq (fun K67 hK67 => ?_)
  replace H := bnd H; obtain ⟨y10, J28, Ho6⟩ := H
  refine cLoopB (f_slices_symMergeCmpFunc_api_Lsa_fn49.b4 a0 a1 a2 a3) (fun (s6 : Int × Int) a w => Env 220 [(0, .slice A_a0 a0.length c_a0), (1, .int .i64 a1), (2, .int .i64 a2), (3, .int .i64 a3), (4, .func (.func 49) [].toArray [].toArray), (18, .int .i64 (IntKind.i64.wrap (shrI .u64 (IntKind.u64.wrap (IntKind.i64.wrap (a1 + a3))) 1))), (19, .int .i64 (IntKind.i64.wrap ((IntKind.i64.wrap (shrI .u64 (IntKind.u64.wrap (IntKind.i64.wrap (a1 + a3))) 1)) + a2))), (20, .int .i64 s6.1), (21, .int .i64 s6.2), (22, .int .i64 (IntKind.i64.wrap ((IntKind.i64.wrap ((IntKind.i64.wrap (shrI .u64 (IntKind.u64.wrap (IntKind.i64.wrap (a1 + a3))) 1)) + a2)) - 1)))] a ∧ Fits z w (L_a0 ++ F)) J28 (fun a hE => ⟨hE.keep (Keep.cons rfl (Keep.cons rfl (Keep.cons rfl (Keep.cons rfl (Keep.cons rfl (Keep.cons rfl (Keep.cons rfl (Keep.cons rfl (Keep.cons rfl (Keep.cons rfl (Keep.nil))))))))))), HF75⟩) ?_ ?_
  ·rintro s6 a w64 y11 ⟨hE, HF82⟩ H Hx5
   refine go_ hE ?_
   refine cSeq (fun K76 hK76 => ?_)
   refine cSeq (fun K77 hK77 => ?_)
   refine cRgn [] trivial ?_
   refine sL (mv rfl) rfl ?_
   refine sL (mv rfl) rfl ?_
   refine sL (bLss rfl rfl) rfl ?_
   refine lE ?_
   refine kN (?_)
   refine hK77 _ _ ?_
   by_cases c391 : s6.1 < s6.2
   ·replace H := itT c391 H
    refine cSet (i := 151) rfl (dT c391) ?_
    refine cT rfl ?_
    refine cSkip ?_
    refine kN (?_)
    refine hK76 _ _ ?_
    refine cBlock ?_
    refine cSeq (fun K78 hK78 => ?_)
    refine cRgn [] trivial ?_
    refine sL (mv rfl) rfl ?_
    refine sL (mv rfl) rfl ?_
    refine sL (bAdd rfl rfl) rfl ?_
    refine sL (cvI rfl Try.underlying3 Try.underlying57) rfl ?_
    refine sL (bShr rfl rfl (by decide)) rfl ?_
    refine sL (cvI rfl Try.underlying57 Try.underlying3) rfl ?_
    refine sL (asg rfl) rfl ?_
    refine lE ?_
    refine kN (?_)
    refine hK78 _ _ ?_
    refine cSeq (fun K79 hK79 => ?_)
    refine cDraw mo_ HF82 rfl (fun w => Fits z w (L_a0 ++ F)) (fun w66 HF84 => ?_)
    refine hT 0 rfl (by kernel_rfl) (fun w_ hS_ => mv rfl) HF84 rfl rfl ?_
    refine hT 1 rfl (by kernel_rfl) (fun w_ hS_ => mv rfl) HF84 rfl rfl ?_
    refine hT 2 rfl (by kernel_rfl) (fun w_ hS_ => mv rfl) HF84 rfl rfl ?_
    refine hT 3 rfl (by kernel_rfl) (fun w_ hS_ => mv rfl) HF84 rfl rfl ?_
    refine hT 4 rfl (by kernel_rfl) (fun w_ hS_ => bSub rfl rfl) HF84 rfl rfl ?_
    replace H := chk H; obtain ⟨c402, H⟩ := H
    replace H := chk H; obtain ⟨c403, H⟩ := H
    obtain ⟨g30, o30, e166, rfl, hk83, q83⟩ := RdS.at_ ho_a0.rd c402 c403
    obtain ⟨A247, c404, A248, c405, A249, c406, rfl, hr247, hr248, hr249⟩ := rd_T_api_Lsa hk83
    refine hT 5 rfl (by kernel_rfl) (fun w_ hS_ => ia rfl rfl Try.underlying24 ti44 c402 c403) HF84 rfl rfl ?_
    refine hT 6 rfl (by kernel_rfl) (fun w_ hS_ => ldA rfl ti44 rfl rfl (fun j v hj => hS_.cells (sub_h) (q83 j v hj))) HF84 rfl rfl ?_
    refine hT 7 rfl (by kernel_rfl) (fun w_ hS_ => mv rfl) HF84 rfl rfl ?_
    refine hT 8 rfl (by kernel_rfl) (fun w_ hS_ => mv rfl) HF84 rfl rfl ?_
    replace H := chk H; obtain ⟨c407, H⟩ := H
    replace H := chk H; obtain ⟨c408, H⟩ := H
    obtain ⟨e168, hk84, q84⟩ := RdS.at' ho_a0.rd c407 c408
    obtain ⟨A250, c409, A251, c410, A252, c411, rfl, hr250, hr251, hr252⟩ := rd_T_api_Lsa hk84
    refine hT 9 rfl (by kernel_rfl) (fun w_ hS_ => ia rfl rfl Try.underlying24 ti44 c407 c408) HF84 rfl rfl ?_
    refine hT 10 rfl (by kernel_rfl) (fun w_ hS_ => ldA rfl ti44 rfl rfl (fun j v hj => hS_.cells (sub_h) (q84 j v hj))) HF84 rfl rfl ?_
    refine h1 11 (by kernel_rfl) rfl ?_
    replace H := bnd H; obtain ⟨t18, J22, H⟩ := H
    refine qCall rfl gd0 isf49 rfl rfl rfl (f_topo_live_1.ok (a0 := (rd a0 (IntKind.i64.wrap ((IntKind.i64.wrap ((IntKind.i64.wrap ((IntKind.i64.wrap (shrI .u64 (IntKind.u64.wrap (IntKind.i64.wrap (a1 + a3))) 1)) + a2)) - 1)) - (IntKind.i64.wrap (shrI .u64 (IntKind.u64.wrap (IntKind.i64.wrap (s6.1 + s6.2))) 1)))))) (a1 := (rd a0 (IntKind.i64.wrap (shrI .u64 (IntKind.u64.wrap (IntKind.i64.wrap (s6.1 + s6.2))) 1)))) (sub_a hG) J22 HF84 (sub_a hG) hr247 (sub_a hG) hr248 (sub_a hG) hr249 (sub_a hG) hr250 (sub_a hG) hr251 (sub_a hG) hr252) ?_
    rintro _ w67 ⟨rfl, HF85⟩
    refine ⟨_, rfl, HF85, ?_⟩
    refine hT 12 rfl (by kernel_rfl) (fun w_ hS_ => bLss rfl rfl) HF85 rfl rfl ?_
    refine hT 13 rfl (by kernel_rfl) (fun w_ hS_ => uNot rfl) HF85 rfl rfl ?_
    refine hEnd (by kernel_rfl) ?_
    refine kN (?_)
    refine hK79 _ _ ?_
    by_cases c412 : t18 < 0
    ·replace H := itT c412 H
     refine cSet (i := 171) rfl (nF c412) ?_
     refine cF rfl ?_
     refine cRgn [] trivial ?_
     refine sL (mv rfl) rfl ?_
     refine sL (asg rfl) rfl ?_
     refine lE ?_
     refine jN (kN (?_))
     exact ofEnv (fun a hE => ⟨_, (Option.some.inj H).symm, ⟨hE.keep (Keep.cons rfl (Keep.cons rfl (Keep.cons rfl (Keep.cons rfl (Keep.cons rfl (Keep.cons rfl (Keep.cons rfl (Keep.cons rfl (Keep.cons rfl (Keep.cons rfl (Keep.nil))))))))))), HF85⟩⟩)
    replace H := itF c412 H
    refine cSet (i := 171) rfl (nT c412) ?_
    refine cT rfl ?_
    refine cRgn [] trivial ?_
    refine sL (mv rfl) rfl ?_
    refine sL (bAdd rfl rfl) rfl ?_
    refine sL (asg rfl) rfl ?_
    refine lE ?_
    refine jN (kN (?_))
    exact ofEnv (fun a hE => ⟨_, (Option.some.inj H).symm, ⟨hE.keep (Keep.cons rfl (Keep.cons rfl (Keep.cons rfl (Keep.cons rfl (Keep.cons rfl (Keep.cons rfl (Keep.cons rfl (Keep.cons rfl (Keep.cons rfl (Keep.cons rfl (Keep.nil))))))))))), HF85⟩⟩)
   replace H := itF c391 H
   refine cSet (i := 151) rfl (dF c391) ?_
   refine cF rfl ?_
   refine cExit ?_
   refine kX (kX (jX (kN (?_))))
   exact ofEnv (fun a hE => ⟨_, (Option.some.inj H).symm, ⟨hE.keep (Keep.cons rfl (Keep.cons rfl (Keep.cons rfl (Keep.cons rfl (Keep.cons rfl (Keep.cons rfl (Keep.cons rfl (Keep.cons rfl (Keep.cons rfl (Keep.cons rfl (Keep.nil))))))))))), HF82⟩⟩)
  rintro s6 a w68 rfl ⟨hE, HF86⟩
  replace H := Ho6
  refine go_k hE ?_
  refine kN (?_)
  refine hK67 _ _ ?_
  refine cSeq (fun K80 hK80 => ?_)
  refine cRgn [] trivial ?_
  refine sL (mv rfl) rfl ?_
  refine sL (mv rfl) rfl ?_
  refine sL (bSub rfl rfl) rfl ?_
  refine sL (asg rfl) rfl ?_
  refine lE ?_
  refine kN (?_)
  refine hK80 _ _ ?_
  refine cSeq (fun K81 hK81 => ?_)
  refine cSeq (fun K82 hK82 => ?_)
  replace H := bnd H; obtain ⟨y12, H, Ho7⟩ := H
  refine cJoin (y := y12) (fun (s7 : Bool) a w => Env 220 [(0, .slice A_a0 a0.length c_a0), (1, .int .i64 a1), (2, .int .i64 a2), (3, .int .i64 a3), (4, .func (.func 49) [].toArray [].toArray), (18, .int .i64 (IntKind.i64.wrap (shrI .u64 (IntKind.u64.wrap (IntKind.i64.wrap (a1 + a3))) 1))), (20, .int .i64 s6.1), (24, .int .i64 (IntKind.i64.wrap ((IntKind.i64.wrap ((IntKind.i64.wrap (shrI .u64 (IntKind.u64.wrap (IntKind.i64.wrap (a1 + a3))) 1)) + a2)) - s6.1))), (185, .bool s7)] a ∧ Fits z w (L_a0 ++ F)) ?_ ?_
  ·refine cRgn [(3, 181)] ⟨rfl, trivial⟩ ?_
   refine sL (mv rfl) rfl ?_
   refine sL (mv rfl) rfl ?_
   refine sL (bLss rfl rfl) rfl ?_
   refine sL (mv rfl) rfl ?_
   by_cases c414 : s6.1 < a2
   ·replace H := itT c414 H
    refine lSet (i := 181) rfl (dT c414) ?_
    refine sG rfl rfl (mv rfl) rfl ?_
    refine sG rfl rfl (mv rfl) rfl ?_
    refine sG rfl rfl (bLss rfl rfl) rfl ?_
    refine sL (pkT rfl rfl) rfl ?_
    refine lE ?_
    refine kN (?_)
    exact ofEnv (fun a hE => ⟨_, (Option.some.inj H).symm, ⟨hE.keep (Keep.cons rfl (Keep.cons rfl (Keep.cons rfl (Keep.cons rfl (Keep.cons rfl (Keep.cons rfl (Keep.cons rfl (Keep.cons rfl (Keep.cons rfl (Keep.nil)))))))))), HF86⟩⟩)
   replace H := itF c414 H
   refine lSet (i := 181) rfl (dF c414) ?_
   refine sN rfl rfl rfl rfl ?_
   refine sN rfl rfl rfl rfl ?_
   refine sN rfl rfl rfl rfl ?_
   refine sL (pkF rfl rfl) rfl ?_
   refine lE ?_
   refine kN (?_)
   exact ofEnv (fun a hE => ⟨_, (Option.some.inj H).symm, ⟨hE.keep (Keep.cons rfl (Keep.cons rfl (Keep.cons rfl (Keep.cons rfl (Keep.cons rfl (Keep.cons rfl (Keep.cons rfl (Keep.cons rfl (Keep.cons rfl (Keep.nil)))))))))), HF86⟩⟩)
  rintro s7 a w69 rfl ⟨hE, HF87⟩
  replace H := Ho7
  refine go_k hE ?_
  refine kN (?_)
  refine hK82 _ _ ?_
  replace H := bnd H; obtain ⟨y13, H, Ho8⟩ := H
  refine cJoin (y := y13) (fun (s8 : (List T_api_Lsa)) a w => ∃ (D1 : Hp) (L30 : Hp), Env 220 [(0, .slice A_a0 s8.length c_a0), (1, .int .i64 a1), (3, .int .i64 a3), (4, .func (.func 49) [].toArray [].toArray), (18, .int .i64 (IntKind.i64.wrap (shrI .u64 (IntKind.u64.wrap (IntKind.i64.wrap (a1 + a3))) 1))), (20, .int .i64 s6.1), (24, .int .i64 (IntKind.i64.wrap ((IntKind.i64.wrap ((IntKind.i64.wrap (shrI .u64 (IntKind.u64.wrap (IntKind.i64.wrap (a1 + a3))) 1)) + a2)) - s6.1)))] a ∧ Fits z w (L30 ++ (D1 ++ F)) ∧ OwnS (kShr (D1 ++ G) k_T_api_Lsa) L30 A_a0 c_a0 s8) ?_ ?_
  ·by_cases c417 : s7 = true
   ·replace H := itT c417 H
    refine cSet (i := 185) rfl (vT c417) ?_
    refine cT rfl ?_
    refine cRgn [] trivial ?_
    refine sL (mv rfl) rfl ?_
    refine sL (mv rfl) rfl ?_
    refine sL (mv rfl) rfl ?_
    refine sL (mv rfl) rfl ?_
    refine sL (mv rfl) rfl ?_
    replace H := bnd H; obtain ⟨t20, J24, H⟩ := H
    refine eCall isf80 rfl rfl rfl (f_slices_rotateCmpFunc_api_Lsa_fn49.ok (a0 := a0) hG J24 HF87 ho_a0) ?_
    rintro _ w71 ⟨N2, L31, rfl, HF89, ho31⟩
    have hs2 : G ⊆ N2 ++ G := sub_a sub_r
    refine ⟨_, rfl, ?_⟩
    replace H := chk H; obtain ⟨c418, H⟩ := H
    refine lSet (i := 0) (v := .slice A_a0 t20.length c_a0) rfl (by rw [c418]) ?_
    refine lSet (i := 186) (v := .slice A_a0 t20.length c_a0) rfl (by rw [c418]) ?_
    refine lE ?_
    refine kN (?_)
    exact ofEnv (fun a hE => ⟨_, (Option.some.inj H).symm, ⟨N2, L31, hE.keep (Keep.cons rfl (Keep.cons rfl (Keep.cons rfl (Keep.cons rfl (Keep.cons rfl (Keep.cons rfl (Keep.cons rfl (Keep.nil)))))))), HF89, ho31⟩⟩)
   replace H := itF c417 H
   refine cSet (i := 185) rfl (vF c417) ?_
   refine cF rfl ?_
   refine cSkip ?_
   refine kN (?_)
   exact ofEnv (fun a hE => ⟨_, (Option.some.inj H).symm, ⟨[], L_a0, hE.keep (Keep.cons rfl (Keep.cons rfl (Keep.cons rfl (Keep.cons rfl (Keep.cons rfl (Keep.cons rfl (Keep.cons rfl (Keep.nil)))))))), HF87, ho_a0⟩⟩)
  rintro s8 a w72 rfl ⟨D1, L30, hE, HF90, ho30⟩
  replace H := Ho8
  refine go_k hE ?_
  have hs3 : G ⊆ D1 ++ G := sub_a sub_r
  refine kN (?_)
  refine hK81 _ _ ?_
  refine cSeq (fun K83 hK83 => ?_)
  refine cSeq (fun K84 hK84 => ?_)
  replace H := bnd H; obtain ⟨y14, H, Ho9⟩ := H
  refine cJoin (y := y14) (fun (s9 : Bool) a w => Env 220 [(0, .slice A_a0 s8.length c_a0), (1, .int .i64 a1), (3, .int .i64 a3), (4, .func (.func 49) [].toArray [].toArray), (18, .int .i64 (IntKind.i64.wrap (shrI .u64 (IntKind.u64.wrap (IntKind.i64.wrap (a1 + a3))) 1))), (20, .int .i64 s6.1), (24, .int .i64 (IntKind.i64.wrap ((IntKind.i64.wrap ((IntKind.i64.wrap (shrI .u64 (IntKind.u64.wrap (IntKind.i64.wrap (a1 + a3))) 1)) + a2)) - s6.1))), (199, .bool s9)] a ∧ Fits z w (L30 ++ (D1 ++ F))) ?_ ?_
  ·refine cRgn [(3, 195)] ⟨rfl, trivial⟩ ?_
   refine sL (mv rfl) rfl ?_
   refine sL (mv rfl) rfl ?_
   refine sL (bLss rfl rfl) rfl ?_
   refine sL (mv rfl) rfl ?_
   by_cases c420 : a1 < s6.1
   ·replace H := itT c420 H
    refine lSet (i := 195) rfl (dT c420) ?_
    refine sG rfl rfl (mv rfl) rfl ?_
    refine sG rfl rfl (mv rfl) rfl ?_
    refine sG rfl rfl (bLss rfl rfl) rfl ?_
    refine sL (pkT rfl rfl) rfl ?_
    refine lE ?_
    refine kN (?_)
    exact ofEnv (fun a hE => ⟨_, (Option.some.inj H).symm, ⟨hE.keep (Keep.cons rfl (Keep.cons rfl (Keep.cons rfl (Keep.cons rfl (Keep.cons rfl (Keep.cons rfl (Keep.cons rfl (Keep.cons rfl (Keep.nil))))))))), HF90⟩⟩)
   replace H := itF c420 H
   refine lSet (i := 195) rfl (dF c420) ?_
   refine sN rfl rfl rfl rfl ?_
   refine sN rfl rfl rfl rfl ?_
   refine sN rfl rfl rfl rfl ?_
   refine sL (pkF rfl rfl) rfl ?_
   refine lE ?_
   refine kN (?_)
   exact ofEnv (fun a hE => ⟨_, (Option.some.inj H).symm, ⟨hE.keep (Keep.cons rfl (Keep.cons rfl (Keep.cons rfl (Keep.cons rfl (Keep.cons rfl (Keep.cons rfl (Keep.cons rfl (Keep.cons rfl (Keep.nil))))))))), HF90⟩⟩)
  rintro s9 a w73 rfl ⟨hE, HF91⟩
  replace H := Ho9
  refine go_k hE ?_
  refine kN (?_)
  refine hK84 _ _ ?_
  by_cases c421 : s9 = true
  ·replace H := itT c421 H
   refine cSet (i := 199) rfl (vT c421) ?_
   refine cT rfl ?_
   refine cRgn [] trivial ?_
   refine sL (mv rfl) rfl ?_
   refine sL (mv rfl) rfl ?_
   refine sL (mv rfl) rfl ?_
   refine sL (mv rfl) rfl ?_
   refine sL (mv rfl) rfl ?_
   replace H := bnd H; obtain ⟨t21, J25, H⟩ := H
   refine eCall isf74 rfl rfl rfl (ih_ (a0 := s8) (sub_n hG) J25 HF91 ho30) ?_
   rintro _ w74 ⟨N3, L32, rfl, HF92, ho32⟩
   obtain ⟨N4, hN1⟩ : ∃ N_, N_ = N3 ++ D1 := ⟨_, rfl⟩
   have HF93 := HF92; rw [← List.append_assoc N3 D1 F, ← hN1] at HF93
   have hs4 : D1 ++ G ⊆ N4 ++ G := frz_s hN1
   have hr253 := OwnS.lift (G' := (N4 ++ G)) ho32 (frz_c hN1)
   refine ⟨_, rfl, ?_⟩
   replace H := chk H; obtain ⟨c422, H⟩ := H
   refine lSet (i := 0) (v := .slice A_a0 t21.length c_a0) rfl (by rw [c422]) ?_
   refine lSet (i := 200) (v := .slice A_a0 t21.length c_a0) rfl (by rw [c422]) ?_
   refine lE ?_
   refine kN (?_)
   refine hK83 _ _ ?_
   refine cSeq (fun K85 hK85 => ?_)
   refine cRgn [(3, 209)] ⟨rfl, trivial⟩ ?_
   refine sL (mv rfl) rfl ?_
   refine sL (mv rfl) rfl ?_
   refine sL (bLss rfl rfl) rfl ?_
   refine sL (mv rfl) rfl ?_
   by_cases c423 : (IntKind.i64.wrap (shrI .u64 (IntKind.u64.wrap (IntKind.i64.wrap (a1 + a3))) 1)) < (IntKind.i64.wrap ((IntKind.i64.wrap ((IntKind.i64.wrap (shrI .u64 (IntKind.u64.wrap (IntKind.i64.wrap (a1 + a3))) 1)) + a2)) - s6.1))
   ·replace H := itT c423 H
    refine lSet (i := 209) rfl (dT c423) ?_
    refine sG rfl rfl (mv rfl) rfl ?_
    refine sG rfl rfl (mv rfl) rfl ?_
    refine sG rfl rfl (bLss rfl rfl) rfl ?_
    refine sL (pkT rfl rfl) rfl ?_
    refine lE ?_
    refine kN (?_)
    refine hK85 _ _ ?_
    by_cases c424 : (IntKind.i64.wrap ((IntKind.i64.wrap ((IntKind.i64.wrap (shrI .u64 (IntKind.u64.wrap (IntKind.i64.wrap (a1 + a3))) 1)) + a2)) - s6.1)) < a3
    ·replace H := itT c424 H
     refine cSet (i := 213) rfl (dT c424) ?_
     refine cT rfl ?_
     refine cRgn [] trivial ?_
     refine sL (mv rfl) rfl ?_
     refine sL (mv rfl) rfl ?_
     refine sL (mv rfl) rfl ?_
     refine sL (mv rfl) rfl ?_
     refine sL (mv rfl) rfl ?_
     replace H := bnd H; obtain ⟨t22, J26, H⟩ := H
     refine eCall isf74 rfl rfl rfl (ih_ (a0 := t21) (sub_n hG) J26 HF93 hr253) ?_
     rintro _ w75 ⟨N5, L33, rfl, HF94, ho33⟩
     obtain ⟨N6, hN2⟩ : ∃ N_, N_ = N5 ++ N4 := ⟨_, rfl⟩
     have HF95 := HF94; rw [← List.append_assoc N5 N4 F, ← hN2] at HF95
     have hs5 : N4 ++ G ⊆ N6 ++ G := frz_s hN2
     have hr254 := OwnS.lift (G' := (N6 ++ G)) ho33 (frz_c hN2)
     refine ⟨_, rfl, ?_⟩
     replace H := chk H; obtain ⟨c425, H⟩ := H
     refine lSet (i := 0) (v := .slice A_a0 t22.length c_a0) rfl (by rw [c425]) ?_
     refine lSet (i := 200) (v := .slice A_a0 t22.length c_a0) rfl (by rw [c425]) ?_
     refine lSet (i := 214) (v := .slice A_a0 t22.length c_a0) rfl (by rw [c425]) ?_
     refine lE ?_
     obtain rfl := Option.some.inj H
     refine end0 rfl ?_
     exact ⟨N6, L33, rfl, HF95, hr254⟩
    replace H := itF c424 H
    refine cSet (i := 213) rfl (dF c424) ?_
    refine cF rfl ?_
    refine cSkip ?_
    obtain rfl := Option.some.inj H
    refine end0 rfl ?_
    exact ⟨N4, L32, rfl, HF93, hr253⟩
   replace H := itF c423 H
   refine lSet (i := 209) rfl (dF c423) ?_
   refine sN rfl rfl rfl rfl ?_
   refine sN rfl rfl rfl rfl ?_
   refine sN rfl rfl rfl rfl ?_
   refine sL (pkF rfl rfl) rfl ?_
   refine lE ?_
   refine kN (?_)
   refine hK85 _ _ ?_
   refine cF rfl ?_
   refine cSkip ?_
   obtain rfl := Option.some.inj H
   refine end0 rfl ?_
   exact ⟨N4, L32, rfl, HF93, hr253⟩
  replace H := itF c421 H
  refine cSet (i := 199) rfl (vF c421) ?_
  refine cF rfl ?_
  refine cSkip ?_
  refine kN (?_)
  refine hK83 _ _ ?_
  refine cSeq (fun K86 hK86 => ?_)
  refine cRgn [(3, 209)] ⟨rfl, trivial⟩ ?_
  refine sL (mv rfl) rfl ?_
  refine sL (mv rfl) rfl ?_
  refine sL (bLss rfl rfl) rfl ?_
  refine sL (mv rfl) rfl ?_
  by_cases c426 : (IntKind.i64.wrap (shrI .u64 (IntKind.u64.wrap (IntKind.i64.wrap (a1 + a3))) 1)) < (IntKind.i64.wrap ((IntKind.i64.wrap ((IntKind.i64.wrap (shrI .u64 (IntKind.u64.wrap (IntKind.i64.wrap (a1 + a3))) 1)) + a2)) - s6.1))
  ·replace H := itT c426 H
   refine lSet (i := 209) rfl (dT c426) ?_
   refine sG rfl rfl (mv rfl) rfl ?_
   refine sG rfl rfl (mv rfl) rfl ?_
   refine sG rfl rfl (bLss rfl rfl) rfl ?_
   refine sL (pkT rfl rfl) rfl ?_
   refine lE ?_
   refine kN (?_)
   refine hK86 _ _ ?_
   by_cases c427 : (IntKind.i64.wrap ((IntKind.i64.wrap ((IntKind.i64.wrap (shrI .u64 (IntKind.u64.wrap (IntKind.i64.wrap (a1 + a3))) 1)) + a2)) - s6.1)) < a3
   ·replace H := itT c427 H
    refine cSet (i := 213) rfl (dT c427) ?_
    refine cT rfl ?_
    refine cRgn [] trivial ?_
    refine sL (mv rfl) rfl ?_
    refine sL (mv rfl) rfl ?_
    refine sL (mv rfl) rfl ?_
    refine sL (mv rfl) rfl ?_
    refine sL (mv rfl) rfl ?_
    replace H := bnd H; obtain ⟨t23, J27, H⟩ := H
    refine eCall isf74 rfl rfl rfl (ih_ (a0 := s8) (sub_n hG) J27 HF91 ho30) ?_
    rintro _ w76 ⟨N7, L34, rfl, HF96, ho34⟩
    obtain ⟨N8, hN3⟩ : ∃ N_, N_ = N7 ++ D1 := ⟨_, rfl⟩
    have HF97 := HF96; rw [← List.append_assoc N7 D1 F, ← hN3] at HF97
    have hs6 : D1 ++ G ⊆ N8 ++ G := frz_s hN3
    have hr255 := OwnS.lift (G' := (N8 ++ G)) ho34 (frz_c hN3)
    refine ⟨_, rfl, ?_⟩
    replace H := chk H; obtain ⟨c428, H⟩ := H
    refine lSet (i := 0) (v := .slice A_a0 t23.length c_a0) rfl (by rw [c428]) ?_
    refine lSet (i := 214) (v := .slice A_a0 t23.length c_a0) rfl (by rw [c428]) ?_
    refine lE ?_
    obtain rfl := Option.some.inj H
    refine end0 rfl ?_
    exact ⟨N8, L34, rfl, HF97, hr255⟩
   replace H := itF c427 H
   refine cSet (i := 213) rfl (dF c427) ?_
   refine cF rfl ?_
   refine cSkip ?_
   obtain rfl := Option.some.inj H
   refine end0 rfl ?_
   exact ⟨D1, L30, rfl, HF91, ho30⟩
  replace H := itF c426 H
  refine lSet (i := 209) rfl (dF c426) ?_
  refine sN rfl rfl rfl rfl ?_
  refine sN rfl rfl rfl rfl ?_
  refine sN rfl rfl rfl rfl ?_
  refine sL (pkF rfl rfl) rfl ?_
  refine lE ?_
  refine kN (?_)
  refine hK86 _ _ ?_
  refine cF rfl ?_
  refine cSkip ?_
  obtain rfl := Option.some.inj H
  refine end0 rfl ?_
  exact ⟨D1, L30, rfl, HF91, ho30⟩
end Go.Proofs.Ytbjnbjgiidcfjaa
