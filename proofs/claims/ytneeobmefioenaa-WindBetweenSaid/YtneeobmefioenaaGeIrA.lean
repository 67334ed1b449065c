/- The program of the seat in a code of our own: its functions as data (that they are the program is checked elsewhere). -/
import Derived.Test.YtneeobmefioenaaGeEv
namespace Go.Ge
set_option maxRecDepth 100000

/- gosem.cut.init -/
def c2 : IC := 
  (.reg [⟨some 0, (.call (.f 1) []), none, []⟩] [] [])
def f2 : IF := ⟨c2, 0, []⟩

/- glidepath/glidepathlaw04.WindBetween -/
def c3_s0 : IC := .ret
def c3_s1 : IC := 
  (.seq 
  (.reg [⟨some 286, (.mv (.t 18)), none, []⟩,
    ⟨some 287, (.bin .eql false [1] (.t 286) (.c (.i .i64 0))), none, []⟩,
    ⟨some 288, (.mv (.t 287)), none, []⟩,
    ⟨some 289, (.mv (.t 20)), some (288, true), []⟩,
    ⟨some 290, (.bin .eql false [1] (.t 289) (.c (.i .i64 0))), some (288, true), []⟩,
    ⟨some 291, (.pick (.t 288) (.t 290) (.c (.b false))), none, []⟩,
    ⟨some 292, (.mv (.t 291)), none, []⟩,
    ⟨some 293, (.mv (.t 22)), some (292, true), []⟩,
    ⟨some 294, (.bin .eql false [1] (.t 293) (.c (.i .i64 0))), some (292, true), []⟩,
    ⟨some 295, (.pick (.t 292) (.t 294) (.c (.b false))), none, []⟩,
    ⟨some 296, (.mv (.t 295)), none, []⟩,
    ⟨some 297, (.fa 0 (.t 17)), some (296, true), []⟩,
    ⟨some 298, (.ld 2 true (.t 297)), some (296, true), []⟩,
    ⟨some 299, (.fa 0 (.t 19)), some (296, true), []⟩,
    ⟨some 300, (.ld 2 true (.t 299)), some (296, true), []⟩,
    ⟨some 301, (.fa 0 (.t 21)), some (296, true), []⟩,
    ⟨some 302, (.ld 2 true (.t 301)), some (296, true), []⟩,
    ⟨some 303, (.call (.f 13) [(.t 298), (.t 300), (.t 302)]), some (296, true), []⟩,
    ⟨some 304, (.pick (.t 296) (.t 303) (.c (.b false))), none, []⟩,
    ⟨some 305, (.mv (.t 304)), none, []⟩,
    ⟨some 306, (.fa 2 (.t 17)), some (305, true), []⟩,
    ⟨some 307, (.ld 2 true (.t 306)), some (305, true), []⟩,
    ⟨some 308, (.fa 2 (.t 19)), some (305, true), []⟩,
    ⟨some 309, (.ld 2 true (.t 308)), some (305, true), []⟩,
    ⟨some 310, (.fa 2 (.t 21)), some (305, true), []⟩,
    ⟨some 311, (.ld 2 true (.t 310)), some (305, true), []⟩,
    ⟨some 312, (.call (.f 13) [(.t 307), (.t 309), (.t 311)]), some (305, true), []⟩,
    ⟨some 313, (.pick (.t 305) (.t 312) (.c (.b false))), none, []⟩,
    ⟨some 314, (.mv (.t 313)), none, []⟩,
    ⟨some 315, (.fa 4 (.t 17)), some (314, true), []⟩,
    ⟨some 316, (.ld 2 true (.t 315)), some (314, true), []⟩,
    ⟨some 317, (.fa 4 (.t 19)), some (314, true), []⟩,
    ⟨some 318, (.ld 2 true (.t 317)), some (314, true), []⟩,
    ⟨some 319, (.fa 4 (.t 21)), some (314, true), []⟩,
    ⟨some 320, (.ld 2 true (.t 319)), some (314, true), []⟩,
    ⟨some 321, (.call (.f 13) [(.t 316), (.t 318), (.t 320)]), some (314, true), []⟩,
    ⟨some 322, (.pick (.t 314) (.t 321) (.c (.b false))), none, []⟩,
    ⟨some 4, (.mv (.t 322)), none, []⟩] [4] [17, 19, 21]) c3_s0)
def c3_s2 : IC := 
  (.seq 
  (.reg [⟨some 278, (.mv (.t 0)), none, []⟩,
    ⟨some 279, (.call (.f 10) [(.t 278)]), none, []⟩,
    ⟨some 280, (.mv (.t 14)), none, []⟩,
    ⟨some 281, (.mv (.t 15)), none, []⟩,
    ⟨some 282, (.bd [(.i .i64 0), (.i .i64 0)] [(0, 1, (.t 280)), (1, 1, (.t 281))]), none, []⟩,
    ⟨some 283, (.call (.f 12) [(.t 279), (.t 282)]), none, []⟩,
    ⟨some 277, (.mv (.t 283)), none, []⟩,
    ⟨some 284, (.ex (.t 277) 0), none, []⟩,
    ⟨some 285, (.ex (.t 277) 1), none, []⟩,
    ⟨some 21, (.al [(.i .i64 0), (.i .i64 0), (.i .i64 0), (.i .i64 0), (.i .i64 0), (.i .i64 0)]), none, []⟩,
    ⟨none, (.st 6 (.t 21) (.t 284)), none, []⟩,
    ⟨some 22, (.mv (.t 285)), none, []⟩] [17, 18, 19, 20, 21, 22] []) c3_s1)
def c3_s3 : IC := 
  (.seq 
  (.reg [⟨some 269, (.mv (.t 0)), none, []⟩,
    ⟨some 270, (.call (.f 10) [(.t 269)]), none, []⟩,
    ⟨some 271, (.mv (.t 16)), none, []⟩,
    ⟨some 272, (.mv (.t 15)), none, []⟩,
    ⟨some 273, (.bd [(.i .i64 0), (.i .i64 0)] [(0, 1, (.t 271)), (1, 1, (.t 272))]), none, []⟩,
    ⟨some 274, (.call (.f 12) [(.t 270), (.t 273)]), none, []⟩,
    ⟨some 268, (.mv (.t 274)), none, []⟩,
    ⟨some 275, (.ex (.t 268) 0), none, []⟩,
    ⟨some 276, (.ex (.t 268) 1), none, []⟩,
    ⟨some 19, (.al [(.i .i64 0), (.i .i64 0), (.i .i64 0), (.i .i64 0), (.i .i64 0), (.i .i64 0)]), none, []⟩,
    ⟨none, (.st 6 (.t 19) (.t 275)), none, []⟩,
    ⟨some 20, (.mv (.t 276)), none, []⟩] [0, 14, 15, 17, 18, 19, 20] []) c3_s2)
def c3_s4 : IC := 
  (.seq 
  (.reg [⟨some 260, (.mv (.t 0)), none, []⟩,
    ⟨some 261, (.call (.f 10) [(.t 260)]), none, []⟩,
    ⟨some 262, (.mv (.t 14)), none, []⟩,
    ⟨some 263, (.mv (.t 16)), none, []⟩,
    ⟨some 264, (.bd [(.i .i64 0), (.i .i64 0)] [(0, 1, (.t 262)), (1, 1, (.t 263))]), none, []⟩,
    ⟨some 265, (.call (.f 12) [(.t 261), (.t 264)]), none, []⟩,
    ⟨some 259, (.mv (.t 265)), none, []⟩,
    ⟨some 266, (.ex (.t 259) 0), none, []⟩,
    ⟨some 267, (.ex (.t 259) 1), none, []⟩,
    ⟨some 17, (.al [(.i .i64 0), (.i .i64 0), (.i .i64 0), (.i .i64 0), (.i .i64 0), (.i .i64 0)]), none, []⟩,
    ⟨none, (.st 6 (.t 17) (.t 266)), none, []⟩,
    ⟨some 18, (.mv (.t 267)), none, []⟩] [0, 14, 15, 16, 17, 18] []) c3_s3)
def c3_s5 : IC := 
  (.seq 
  (.reg [⟨some 247, (.ixp 3 1 (.t 5) (.c (.i .i64 0))), none, []⟩,
    ⟨some 248, (.ld 1 false (.t 247)), none, []⟩,
    ⟨some 249, (.ixp 3 1 (.t 5) (.c (.i .i64 1))), none, []⟩,
    ⟨some 250, (.ld 1 false (.t 249)), none, []⟩,
    ⟨some 251, (.bin .add false [] (.t 248) (.t 250)), none, []⟩,
    ⟨some 252, (.ixp 3 1 (.t 5) (.c (.i .i64 2))), none, []⟩,
    ⟨some 253, (.ld 1 false (.t 252)), none, []⟩,
    ⟨some 254, (.bin .add false [] (.t 251) (.t 253)), none, []⟩,
    ⟨some 255, (.mv (.t 14)), none, []⟩,
    ⟨some 256, (.bin .sub false [] (.t 254) (.t 255)), none, []⟩,
    ⟨some 257, (.mv (.t 15)), none, []⟩,
    ⟨some 258, (.bin .sub false [] (.t 256) (.t 257)), none, []⟩,
    ⟨some 16, (.mv (.t 258)), none, []⟩] [0, 14, 15, 16] [5]) c3_s4)
def c3_s6 : IC := 
  (.seq 
  (.dreg [⟨some 231, (.ixp 3 1 (.t 5) (.c (.i .i64 0))), none, []⟩,
    ⟨some 232, (.ld 1 false (.t 231)), none, []⟩,
    ⟨some 233, (.ixp 3 1 (.t 5) (.c (.i .i64 1))), none, []⟩,
    ⟨some 234, (.ld 1 false (.t 233)), none, []⟩,
    ⟨some 235, (.ixp 3 1 (.t 5) (.c (.i .i64 2))), none, []⟩,
    ⟨some 236, (.ld 1 false (.t 235)), none, []⟩,
    ⟨some 237, (.mn [(.t 234), (.t 236)]), none, []⟩,
    ⟨some 238, (.mn [(.t 232), (.t 237)]), none, []⟩,
    ⟨some 239, (.ixp 3 1 (.t 5) (.c (.i .i64 0))), none, []⟩,
    ⟨some 240, (.ld 1 false (.t 239)), none, []⟩,
    ⟨some 241, (.ixp 3 1 (.t 5) (.c (.i .i64 1))), none, []⟩,
    ⟨some 242, (.ld 1 false (.t 241)), none, []⟩,
    ⟨some 243, (.ixp 3 1 (.t 5) (.c (.i .i64 2))), none, []⟩,
    ⟨some 244, (.ld 1 false (.t 243)), none, []⟩,
    ⟨some 245, (.mx [(.t 242), (.t 244)]), none, []⟩,
    ⟨some 246, (.mx [(.t 240), (.t 245)]), none, []⟩,
    ⟨some 14, (.mv (.t 238)), none, []⟩,
    ⟨some 15, (.mv (.t 246)), none, []⟩] [[], [0], [], [2], [], [4], [2, 3, 4, 5], [0, 1, 2, 3, 4, 5, 6], [], [8], [], [10], [], [12], [10, 11, 12, 13], [8, 9, 10, 11, 12, 13, 14], [0, 1, 2, 3, 4, 5, 6, 7], [0, 1, 2, 3, 4, 5, 6, 7, 8, 9, 10, 11, 12, 13, 14, 15, 16]] [0, 5, 14, 15] []) c3_s5)
def c3_s7 : IC := 
  (.seq 
  (.seq 
  (.reg [⟨some 193, (.mv (.t 13)), none, []⟩,
    ⟨some 194, (.bin .neq false [1] (.t 193) (.c (.i .i64 0))), none, []⟩,
    ⟨some 195, (.mv (.t 194)), none, []⟩,
    ⟨some 196, (.fa 0 (.t 12)), some (195, false), []⟩,
    ⟨some 197, (.fa 0 (.t 196)), some (195, false), []⟩,
    ⟨some 198, (.ld 1 false (.t 197)), some (195, false), []⟩,
    ⟨some 199, (.bin .gtr false [] (.t 198) (.c (.i .i64 0))), some (195, false), []⟩,
    ⟨some 200, (.pick (.t 195) (.c (.b true)) (.t 199)), none, []⟩,
    ⟨some 201, (.mv (.t 200)), none, []⟩,
    ⟨some 202, (.fa 0 (.t 12)), some (201, false), []⟩,
    ⟨some 203, (.fa 1 (.t 202)), some (201, false), []⟩,
    ⟨some 204, (.ld 1 false (.t 203)), some (201, false), []⟩,
    ⟨some 205, (.bin .lss false [] (.t 204) (.c (.i .i64 0))), some (201, false), []⟩,
    ⟨some 206, (.pick (.t 201) (.c (.b true)) (.t 205)), none, []⟩,
    ⟨some 207, (.mv (.t 206)), none, []⟩,
    ⟨some 208, (.fa 2 (.t 12)), some (207, false), []⟩,
    ⟨some 209, (.fa 0 (.t 208)), some (207, false), []⟩,
    ⟨some 210, (.ld 1 false (.t 209)), some (207, false), []⟩,
    ⟨some 211, (.bin .gtr false [] (.t 210) (.c (.i .i64 0))), some (207, false), []⟩,
    ⟨some 212, (.pick (.t 207) (.c (.b true)) (.t 211)), none, []⟩,
    ⟨some 213, (.mv (.t 212)), none, []⟩,
    ⟨some 214, (.fa 2 (.t 12)), some (213, false), []⟩,
    ⟨some 215, (.fa 1 (.t 214)), some (213, false), []⟩,
    ⟨some 216, (.ld 1 false (.t 215)), some (213, false), []⟩,
    ⟨some 217, (.bin .lss false [] (.t 216) (.c (.i .i64 0))), some (213, false), []⟩,
    ⟨some 218, (.pick (.t 213) (.c (.b true)) (.t 217)), none, []⟩,
    ⟨some 219, (.mv (.t 218)), none, []⟩,
    ⟨some 220, (.fa 4 (.t 12)), some (219, false), []⟩,
    ⟨some 221, (.fa 0 (.t 220)), some (219, false), []⟩,
    ⟨some 222, (.ld 1 false (.t 221)), some (219, false), []⟩,
    ⟨some 223, (.bin .gtr false [] (.t 222) (.c (.i .i64 0))), some (219, false), []⟩,
    ⟨some 224, (.pick (.t 219) (.c (.b true)) (.t 223)), none, []⟩,
    ⟨some 225, (.mv (.t 224)), none, []⟩,
    ⟨some 226, (.fa 4 (.t 12)), some (225, false), []⟩,
    ⟨some 227, (.fa 1 (.t 226)), some (225, false), []⟩,
    ⟨some 228, (.ld 1 false (.t 227)), some (225, false), []⟩,
    ⟨some 229, (.bin .lss false [] (.t 228) (.c (.i .i64 0))), some (225, false), []⟩,
    ⟨some 230, (.pick (.t 225) (.c (.b true)) (.t 229)), none, []⟩] [0, 5, 230] [12]) 
  (.cond (.t 230) 
    (.seq 
    (.reg [⟨some 4, (.mv (.c (.b false))), none, []⟩] [4] [5]) .ret) .skip)) c3_s6)
def c3_s8 : IC := 
  (.seq 
  (.dreg [⟨some 183, (.mv (.t 0)), none, []⟩,
    ⟨some 184, (.call (.f 10) [(.t 183)]), none, []⟩,
    ⟨some 185, (.ixp 3 1 (.t 5) (.c (.i .i64 0))), none, []⟩,
    ⟨some 186, (.ld 1 false (.t 185)), none, []⟩,
    ⟨some 187, (.ixp 3 1 (.t 5) (.c (.i .i64 0))), none, []⟩,
    ⟨some 188, (.ld 1 false (.t 187)), none, []⟩,
    ⟨some 189, (.bd [(.i .i64 0), (.i .i64 0)] [(0, 1, (.t 186)), (1, 1, (.t 188))]), none, []⟩,
    ⟨some 190, (.call (.f 12) [(.t 184), (.t 189)]), none, []⟩,
    ⟨some 182, (.mv (.t 190)), none, []⟩,
    ⟨some 191, (.ex (.t 182) 0), none, []⟩,
    ⟨some 192, (.ex (.t 182) 1), none, []⟩,
    ⟨some 12, (.al [(.i .i64 0), (.i .i64 0), (.i .i64 0), (.i .i64 0), (.i .i64 0), (.i .i64 0)]), none, []⟩,
    ⟨none, (.st 6 (.t 12) (.t 191)), none, []⟩,
    ⟨some 13, (.mv (.t 192)), none, []⟩] [[], [0], [], [2], [], [4], [2, 3, 4, 5], [0, 1, 2, 3, 4, 5, 6], [0, 1, 2, 3, 4, 5, 6, 7], [0, 1, 2, 3, 4, 5, 6, 7, 8], [0, 1, 2, 3, 4, 5, 6, 7, 8], [], [0, 1, 2, 3, 4, 5, 6, 7, 8, 9, 11], [0, 1, 2, 3, 4, 5, 6, 7, 8, 9, 10, 11, 12]] [0, 5, 12, 13] []) c3_s7)
def c3_b0 : IC := 
  (.seq 
  (.seq 
  (.reg [⟨some 61, (.mv (.t 7)), none, []⟩,
    ⟨some 62, (.mv (.t 0)), none, []⟩,
    ⟨some 63, (.len false (.t 62)), none, []⟩,
    ⟨some 64, (.bin .lss false [] (.t 61) (.t 63)), none, []⟩] [0, 5, 7, 64] []) 
  (.cond (.t 64) .skip (.exit 2))) 
  (.seq 
  (.block 3 
    (.seq 
    (.dreg [⟨some 68, (.mv (.t 0)), none, []⟩,
      ⟨some 69, (.call (.f 10) [(.t 68)]), none, []⟩,
      ⟨some 70, (.mv (.t 0)), none, []⟩,
      ⟨some 71, (.mv (.t 7)), none, []⟩,
      ⟨some 72, (.ixs 7 (.t 70) (.t 71)), none, []⟩,
      ⟨some 73, (.fa 0 (.t 72)), none, []⟩,
      ⟨some 74, (.ld 1 false (.t 73)), none, []⟩,
      ⟨some 75, (.call (.f 9) [(.t 69), (.t 74)]), none, []⟩,
      ⟨some 67, (.mv (.t 75)), none, []⟩,
      ⟨some 76, (.ex (.t 67) 0), none, []⟩,
      ⟨some 77, (.ex (.t 67) 1), none, []⟩,
      ⟨some 8, (.al [(.i .i64 0), (.i .i64 0), (.i .i64 0), (.i .i64 0), (.i .i64 0), (.i .i64 0)]), none, []⟩,
      ⟨none, (.st 6 (.t 8) (.t 76)), none, []⟩,
      ⟨some 9, (.mv (.t 77)), none, []⟩] [[], [0], [], [], [2, 3], [2, 3, 4], [2, 3, 4, 5], [0, 1, 2, 3, 4, 5, 6], [0, 1, 2, 3, 4, 5, 6, 7], [0, 1, 2, 3, 4, 5, 6, 7, 8], [0, 1, 2, 3, 4, 5, 6, 7, 8], [], [0, 1, 2, 3, 4, 5, 6, 7, 8, 9, 11], [0, 1, 2, 3, 4, 5, 6, 7, 8, 9, 10, 11, 12]] [0, 5, 7, 8, 9] []) 
    (.seq 
    (.seq 
    (.dreg [⟨some 78, (.mv (.t 9)), none, []⟩,
      ⟨some 79, (.bin .neq false [1] (.t 78) (.c (.i .i64 0))), none, []⟩,
      ⟨some 80, (.mv (.t 79)), none, []⟩,
      ⟨some 81, (.ld 6 true (.t 8)), some (80, false), []⟩,
      ⟨some 82, (.mv (.t 0)), some (80, false), []⟩,
      ⟨some 83, (.mv (.t 7)), some (80, false), []⟩,
      ⟨some 84, (.ixs 7 (.t 82) (.t 83)), some (80, false), []⟩,
      ⟨some 85, (.fa 1 (.t 84)), some (80, false), []⟩,
      ⟨some 86, (.ld 6 true (.t 85)), some (80, false), []⟩,
      ⟨some 87, (.bin .neq true [1, 1, 1, 1, 1, 1] (.t 81) (.t 86)), some (80, false), []⟩,
      ⟨some 88, (.pick (.t 80) (.c (.b true)) (.t 87)), none, []⟩] [[], [0], [0, 1], [0, 1, 2], [0, 1, 2], [0, 1, 2], [0, 1, 2, 4, 5], [0, 1, 2, 4, 5, 6], [0, 1, 2, 4, 5, 6, 7], [0, 1, 2, 3, 4, 5, 6, 7, 8], [0, 1, 2, 3, 4, 5, 6, 7, 8, 9]] [0, 5, 7, 88] [8]) 
    (.cond (.t 88) 
      (.seq 
      (.reg [⟨some 4, (.mv (.c (.b false))), none, []⟩] [4] [5]) .ret) .skip)) 
    (.seq 
    (.dreg [⟨some 89, (.mv (.t 7)), none, []⟩,
      ⟨some 90, (.bin .add false [] (.t 89) (.c (.i .i64 1))), none, []⟩,
      ⟨some 91, (.mv (.t 0)), none, []⟩,
      ⟨some 92, (.len false (.t 91)), none, []⟩,
      ⟨some 93, (.bin .lss false [] (.t 90) (.t 92)), none, []⟩,
      ⟨some 94, (.mv (.t 93)), none, []⟩,
      ⟨some 95, (.mv (.t 0)), some (94, true), []⟩,
      ⟨some 96, (.mv (.t 7)), some (94, true), []⟩,
      ⟨some 97, (.ixs 7 (.t 95) (.t 96)), some (94, true), []⟩,
      ⟨some 98, (.fa 0 (.t 97)), some (94, true), []⟩,
      ⟨some 99, (.ld 1 false (.t 98)), some (94, true), []⟩,
      ⟨some 100, (.ixp 3 1 (.t 5) (.c (.i .i64 0))), some (94, true), []⟩,
      ⟨some 101, (.ld 1 false (.t 100)), some (94, true), []⟩,
      ⟨some 102, (.bin .leq false [] (.t 99) (.t 101)), some (94, true), []⟩,
      ⟨some 103, (.pick (.t 94) (.t 102) (.c (.b false))), none, []⟩,
      ⟨some 104, (.mv (.t 103)), none, []⟩,
      ⟨some 105, (.ixp 3 1 (.t 5) (.c (.i .i64 0))), some (104, true), []⟩,
      ⟨some 106, (.ld 1 false (.t 105)), some (104, true), []⟩,
      ⟨some 107, (.mv (.t 0)), some (104, true), []⟩,
      ⟨some 108, (.mv (.t 7)), some (104, true), []⟩,
      ⟨some 109, (.bin .add false [] (.t 108) (.c (.i .i64 1))), some (104, true), []⟩,
      ⟨some 110, (.ixs 7 (.t 107) (.t 109)), some (104, true), []⟩,
      ⟨some 111, (.fa 0 (.t 110)), some (104, true), []⟩,
      ⟨some 112, (.ld 1 false (.t 111)), some (104, true), []⟩,
      ⟨some 113, (.bin .leq false [] (.t 106) (.t 112)), some (104, true), []⟩,
      ⟨some 114, (.pick (.t 104) (.t 113) (.c (.b false))), none, []⟩] [[], [0], [], [2], [0, 1, 2, 3], [0, 1, 2, 3, 4], [0, 1, 2, 3, 4, 5], [0, 1, 2, 3, 4, 5], [0, 1, 2, 3, 4, 5, 6, 7], [0, 1, 2, 3, 4, 5, 6, 7, 8], [0, 1, 2, 3, 4, 5, 6, 7, 8, 9], [0, 1, 2, 3, 4, 5], [0, 1, 2, 3, 4, 5, 11], [0, 1, 2, 3, 4, 5, 6, 7, 8, 9, 10, 11, 12], [0, 1, 2, 3, 4, 5, 6, 7, 8, 9, 10, 11, 12, 13], [0, 1, 2, 3, 4, 5, 6, 7, 8, 9, 10, 11, 12, 13, 14], [0, 1, 2, 3, 4, 5, 6, 7, 8, 9, 10, 11, 12, 13, 14, 15], [0, 1, 2, 3, 4, 5, 6, 7, 8, 9, 10, 11, 12, 13, 14, 15, 16], [0, 1, 2, 3, 4, 5, 6, 7, 8, 9, 10, 11, 12, 13, 14, 15], [0, 1, 2, 3, 4, 5, 6, 7, 8, 9, 10, 11, 12, 13, 14, 15], [0, 1, 2, 3, 4, 5, 6, 7, 8, 9, 10, 11, 12, 13, 14, 15, 19], [0, 1, 2, 3, 4, 5, 6, 7, 8, 9, 10, 11, 12, 13, 14, 15, 18, 19, 20], [0, 1, 2, 3, 4, 5, 6, 7, 8, 9, 10, 11, 12, 13, 14, 15, 18, 19, 20, 21], [0, 1, 2, 3, 4, 5, 6, 7, 8, 9, 10, 11, 12, 13, 14, 15, 18, 19, 20, 21, 22], [0, 1, 2, 3, 4, 5, 6, 7, 8, 9, 10, 11, 12, 13, 14, 15, 16, 17, 18, 19, 20, 21, 22, 23], [0, 1, 2, 3, 4, 5, 6, 7, 8, 9, 10, 11, 12, 13, 14, 15, 16, 17, 18, 19, 20, 21, 22, 23, 24]] [0, 5, 7, 114] []) 
    (.cond (.t 114) 
      (.seq 
      (.dreg [⟨some 116, (.mv (.t 0)), none, []⟩,
        ⟨some 117, (.call (.f 10) [(.t 116)]), none, []⟩,
        ⟨some 118, (.ixp 3 1 (.t 5) (.c (.i .i64 0))), none, []⟩,
        ⟨some 119, (.ld 1 false (.t 118)), none, []⟩,
        ⟨some 120, (.call (.f 9) [(.t 117), (.t 119)]), none, []⟩,
        ⟨some 115, (.mv (.t 120)), none, []⟩,
        ⟨some 121, (.ex (.t 115) 0), none, []⟩,
        ⟨some 122, (.ex (.t 115) 1), none, []⟩,
        ⟨some 10, (.al [(.i .i64 0), (.i .i64 0), (.i .i64 0), (.i .i64 0), (.i .i64 0), (.i .i64 0)]), none, []⟩,
        ⟨none, (.st 6 (.t 10) (.t 121)), none, []⟩,
        ⟨some 11, (.mv (.t 122)), none, []⟩] [[], [0], [], [2], [0, 1, 2, 3], [0, 1, 2, 3, 4], [0, 1, 2, 3, 4, 5], [0, 1, 2, 3, 4, 5], [], [0, 1, 2, 3, 4, 5, 6, 8], [0, 1, 2, 3, 4, 5, 6, 7, 8, 9]] [0, 5, 7, 10, 11] []) 
      (.seq 
      (.dreg [⟨some 123, (.mv (.t 11)), none, []⟩,
        ⟨some 124, (.bin .neq false [1] (.t 123) (.c (.i .i64 0))), none, []⟩,
        ⟨some 125, (.mv (.t 124)), none, []⟩,
        ⟨some 126, (.fa 0 (.t 10)), some (125, false), []⟩,
        ⟨some 127, (.ld 2 true (.t 126)), some (125, false), []⟩,
        ⟨some 128, (.mv (.t 0)), some (125, false), []⟩,
        ⟨some 129, (.mv (.t 7)), some (125, false), []⟩,
        ⟨some 130, (.ixs 7 (.t 128) (.t 129)), some (125, false), []⟩,
        ⟨some 131, (.fa 1 (.t 130)), some (125, false), []⟩,
        ⟨some 132, (.fa 0 (.t 131)), some (125, false), []⟩,
        ⟨some 133, (.ld 2 true (.t 132)), some (125, false), []⟩,
        ⟨some 134, (.mv (.t 0)), some (125, false), []⟩,
        ⟨some 135, (.mv (.t 7)), some (125, false), []⟩,
        ⟨some 136, (.bin .add false [] (.t 135) (.c (.i .i64 1))), some (125, false), []⟩,
        ⟨some 137, (.ixs 7 (.t 134) (.t 136)), some (125, false), []⟩,
        ⟨some 138, (.fa 1 (.t 137)), some (125, false), []⟩,
        ⟨some 139, (.fa 0 (.t 138)), some (125, false), []⟩,
        ⟨some 140, (.ld 2 true (.t 139)), some (125, false), []⟩,
        ⟨some 141, (.call (.f 11) [(.t 127), (.t 133), (.t 140)]), some (125, false), []⟩,
        ⟨some 142, (.un .not (.t 141)), some (125, false), []⟩,
        ⟨some 143, (.pick (.t 125) (.c (.b true)) (.t 142)), none, []⟩,
        ⟨some 144, (.mv (.t 143)), none, []⟩,
        ⟨some 145, (.fa 2 (.t 10)), some (144, false), []⟩,
        ⟨some 146, (.ld 2 true (.t 145)), some (144, false), []⟩,
        ⟨some 147, (.mv (.t 0)), some (144, false), []⟩,
        ⟨some 148, (.mv (.t 7)), some (144, false), []⟩,
        ⟨some 149, (.ixs 7 (.t 147) (.t 148)), some (144, false), []⟩,
        ⟨some 150, (.fa 1 (.t 149)), some (144, false), []⟩,
        ⟨some 151, (.fa 2 (.t 150)), some (144, false), []⟩,
        ⟨some 152, (.ld 2 true (.t 151)), some (144, false), []⟩,
        ⟨some 153, (.mv (.t 0)), some (144, false), []⟩,
        ⟨some 154, (.mv (.t 7)), some (144, false), []⟩,
        ⟨some 155, (.bin .add false [] (.t 154) (.c (.i .i64 1))), some (144, false), []⟩,
        ⟨some 156, (.ixs 7 (.t 153) (.t 155)), some (144, false), []⟩,
        ⟨some 157, (.fa 1 (.t 156)), some (144, false), []⟩,
        ⟨some 158, (.fa 2 (.t 157)), some (144, false), []⟩,
        ⟨some 159, (.ld 2 true (.t 158)), some (144, false), []⟩,
        ⟨some 160, (.call (.f 11) [(.t 146), (.t 152), (.t 159)]), some (144, false), []⟩,
        ⟨some 161, (.un .not (.t 160)), some (144, false), []⟩,
        ⟨some 162, (.pick (.t 144) (.c (.b true)) (.t 161)), none, []⟩,
        ⟨some 163, (.mv (.t 162)), none, []⟩,
        ⟨some 164, (.fa 4 (.t 10)), some (163, false), []⟩,
        ⟨some 165, (.ld 2 true (.t 164)), some (163, false), []⟩,
        ⟨some 166, (.mv (.t 0)), some (163, false), []⟩,
        ⟨some 167, (.mv (.t 7)), some (163, false), []⟩,
        ⟨some 168, (.ixs 7 (.t 166) (.t 167)), some (163, false), []⟩,
        ⟨some 169, (.fa 1 (.t 168)), some (163, false), []⟩,
        ⟨some 170, (.fa 4 (.t 169)), some (163, false), []⟩,
        ⟨some 171, (.ld 2 true (.t 170)), some (163, false), []⟩,
        ⟨some 172, (.mv (.t 0)), some (163, false), []⟩,
        ⟨some 173, (.mv (.t 7)), some (163, false), []⟩,
        ⟨some 174, (.bin .add false [] (.t 173) (.c (.i .i64 1))), some (163, false), []⟩,
        ⟨some 175, (.ixs 7 (.t 172) (.t 174)), some (163, false), []⟩,
        ⟨some 176, (.fa 1 (.t 175)), some (163, false), []⟩,
        ⟨some 177, (.fa 4 (.t 176)), some (163, false), []⟩,
        ⟨some 178, (.ld 2 true (.t 177)), some (163, false), []⟩,
        ⟨some 179, (.call (.f 11) [(.t 165), (.t 171), (.t 178)]), some (163, false), []⟩,
        ⟨some 180, (.un .not (.t 179)), some (163, false), []⟩,
        ⟨some 181, (.pick (.t 163) (.c (.b true)) (.t 180)), none, []⟩] [[], [0], [0, 1], [0, 1, 2], [0, 1, 2, 3], [0, 1, 2], [0, 1, 2], [0, 1, 2, 5, 6], [0, 1, 2, 5, 6, 7], [0, 1, 2, 5, 6, 7, 8], [0, 1, 2, 5, 6, 7, 8, 9], [0, 1, 2], [0, 1, 2], [0, 1, 2, 12], [0, 1, 2, 11, 12, 13], [0, 1, 2, 11, 12, 13, 14], [0, 1, 2, 11, 12, 13, 14, 15], [0, 1, 2, 11, 12, 13, 14, 15, 16], [0, 1, 2, 3, 4, 5, 6, 7, 8, 9, 10, 11, 12, 13, 14, 15, 16, 17], [0, 1, 2, 3, 4, 5, 6, 7, 8, 9, 10, 11, 12, 13, 14, 15, 16, 17, 18], [0, 1, 2, 3, 4, 5, 6, 7, 8, 9, 10, 11, 12, 13, 14, 15, 16, 17, 18, 19], [0, 1, 2, 3, 4, 5, 6, 7, 8, 9, 10, 11, 12, 13, 14, 15, 16, 17, 18, 19, 20], [0, 1, 2, 3, 4, 5, 6, 7, 8, 9, 10, 11, 12, 13, 14, 15, 16, 17, 18, 19, 20, 21], [0, 1, 2, 3, 4, 5, 6, 7, 8, 9, 10, 11, 12, 13, 14, 15, 16, 17, 18, 19, 20, 21, 22], [0, 1, 2, 3, 4, 5, 6, 7, 8, 9, 10, 11, 12, 13, 14, 15, 16, 17, 18, 19, 20, 21], [0, 1, 2, 3, 4, 5, 6, 7, 8, 9, 10, 11, 12, 13, 14, 15, 16, 17, 18, 19, 20, 21], [0, 1, 2, 3, 4, 5, 6, 7, 8, 9, 10, 11, 12, 13, 14, 15, 16, 17, 18, 19, 20, 21, 24, 25], [0, 1, 2, 3, 4, 5, 6, 7, 8, 9, 10, 11, 12, 13, 14, 15, 16, 17, 18, 19, 20, 21, 24, 25, 26], [0, 1, 2, 3, 4, 5, 6, 7, 8, 9, 10, 11, 12, 13, 14, 15, 16, 17, 18, 19, 20, 21, 24, 25, 26, 27], [0, 1, 2, 3, 4, 5, 6, 7, 8, 9, 10, 11, 12, 13, 14, 15, 16, 17, 18, 19, 20, 21, 24, 25, 26, 27, 28], [0, 1, 2, 3, 4, 5, 6, 7, 8, 9, 10, 11, 12, 13, 14, 15, 16, 17, 18, 19, 20, 21], [0, 1, 2, 3, 4, 5, 6, 7, 8, 9, 10, 11, 12, 13, 14, 15, 16, 17, 18, 19, 20, 21], [0, 1, 2, 3, 4, 5, 6, 7, 8, 9, 10, 11, 12, 13, 14, 15, 16, 17, 18, 19, 20, 21, 31], [0, 1, 2, 3, 4, 5, 6, 7, 8, 9, 10, 11, 12, 13, 14, 15, 16, 17, 18, 19, 20, 21, 30, 31, 32], [0, 1, 2, 3, 4, 5, 6, 7, 8, 9, 10, 11, 12, 13, 14, 15, 16, 17, 18, 19, 20, 21, 30, 31, 32, 33], [0, 1, 2, 3, 4, 5, 6, 7, 8, 9, 10, 11, 12, 13, 14, 15, 16, 17, 18, 19, 20, 21, 30, 31, 32, 33, 34], [0, 1, 2, 3, 4, 5, 6, 7, 8, 9, 10, 11, 12, 13, 14, 15, 16, 17, 18, 19, 20, 21, 30, 31, 32, 33, 34, 35], [0, 1, 2, 3, 4, 5, 6, 7, 8, 9, 10, 11, 12, 13, 14, 15, 16, 17, 18, 19, 20, 21, 22, 23, 24, 25, 26, 27, 28, 29, 30, 31, 32, 33, 34, 35, 36], [0, 1, 2, 3, 4, 5, 6, 7, 8, 9, 10, 11, 12, 13, 14, 15, 16, 17, 18, 19, 20, 21, 22, 23, 24, 25, 26, 27, 28, 29, 30, 31, 32, 33, 34, 35, 36, 37], [0, 1, 2, 3, 4, 5, 6, 7, 8, 9, 10, 11, 12, 13, 14, 15, 16, 17, 18, 19, 20, 21, 22, 23, 24, 25, 26, 27, 28, 29, 30, 31, 32, 33, 34, 35, 36, 37, 38], [0, 1, 2, 3, 4, 5, 6, 7, 8, 9, 10, 11, 12, 13, 14, 15, 16, 17, 18, 19, 20, 21, 22, 23, 24, 25, 26, 27, 28, 29, 30, 31, 32, 33, 34, 35, 36, 37, 38, 39], [0, 1, 2, 3, 4, 5, 6, 7, 8, 9, 10, 11, 12, 13, 14, 15, 16, 17, 18, 19, 20, 21, 22, 23, 24, 25, 26, 27, 28, 29, 30, 31, 32, 33, 34, 35, 36, 37, 38, 39, 40], [0, 1, 2, 3, 4, 5, 6, 7, 8, 9, 10, 11, 12, 13, 14, 15, 16, 17, 18, 19, 20, 21, 22, 23, 24, 25, 26, 27, 28, 29, 30, 31, 32, 33, 34, 35, 36, 37, 38, 39, 40, 41], [0, 1, 2, 3, 4, 5, 6, 7, 8, 9, 10, 11, 12, 13, 14, 15, 16, 17, 18, 19, 20, 21, 22, 23, 24, 25, 26, 27, 28, 29, 30, 31, 32, 33, 34, 35, 36, 37, 38, 39, 40], [0, 1, 2, 3, 4, 5, 6, 7, 8, 9, 10, 11, 12, 13, 14, 15, 16, 17, 18, 19, 20, 21, 22, 23, 24, 25, 26, 27, 28, 29, 30, 31, 32, 33, 34, 35, 36, 37, 38, 39, 40], [0, 1, 2, 3, 4, 5, 6, 7, 8, 9, 10, 11, 12, 13, 14, 15, 16, 17, 18, 19, 20, 21, 22, 23, 24, 25, 26, 27, 28, 29, 30, 31, 32, 33, 34, 35, 36, 37, 38, 39, 40, 43, 44], [0, 1, 2, 3, 4, 5, 6, 7, 8, 9, 10, 11, 12, 13, 14, 15, 16, 17, 18, 19, 20, 21, 22, 23, 24, 25, 26, 27, 28, 29, 30, 31, 32, 33, 34, 35, 36, 37, 38, 39, 40, 43, 44, 45], [0, 1, 2, 3, 4, 5, 6, 7, 8, 9, 10, 11, 12, 13, 14, 15, 16, 17, 18, 19, 20, 21, 22, 23, 24, 25, 26, 27, 28, 29, 30, 31, 32, 33, 34, 35, 36, 37, 38, 39, 40, 43, 44, 45, 46], [0, 1, 2, 3, 4, 5, 6, 7, 8, 9, 10, 11, 12, 13, 14, 15, 16, 17, 18, 19, 20, 21, 22, 23, 24, 25, 26, 27, 28, 29, 30, 31, 32, 33, 34, 35, 36, 37, 38, 39, 40, 43, 44, 45, 46, 47], [0, 1, 2, 3, 4, 5, 6, 7, 8, 9, 10, 11, 12, 13, 14, 15, 16, 17, 18, 19, 20, 21, 22, 23, 24, 25, 26, 27, 28, 29, 30, 31, 32, 33, 34, 35, 36, 37, 38, 39, 40], [0, 1, 2, 3, 4, 5, 6, 7, 8, 9, 10, 11, 12, 13, 14, 15, 16, 17, 18, 19, 20, 21, 22, 23, 24, 25, 26, 27, 28, 29, 30, 31, 32, 33, 34, 35, 36, 37, 38, 39, 40], [0, 1, 2, 3, 4, 5, 6, 7, 8, 9, 10, 11, 12, 13, 14, 15, 16, 17, 18, 19, 20, 21, 22, 23, 24, 25, 26, 27, 28, 29, 30, 31, 32, 33, 34, 35, 36, 37, 38, 39, 40, 50], [0, 1, 2, 3, 4, 5, 6, 7, 8, 9, 10, 11, 12, 13, 14, 15, 16, 17, 18, 19, 20, 21, 22, 23, 24, 25, 26, 27, 28, 29, 30, 31, 32, 33, 34, 35, 36, 37, 38, 39, 40, 49, 50, 51], [0, 1, 2, 3, 4, 5, 6, 7, 8, 9, 10, 11, 12, 13, 14, 15, 16, 17, 18, 19, 20, 21, 22, 23, 24, 25, 26, 27, 28, 29, 30, 31, 32, 33, 34, 35, 36, 37, 38, 39, 40, 49, 50, 51, 52], [0, 1, 2, 3, 4, 5, 6, 7, 8, 9, 10, 11, 12, 13, 14, 15, 16, 17, 18, 19, 20, 21, 22, 23, 24, 25, 26, 27, 28, 29, 30, 31, 32, 33, 34, 35, 36, 37, 38, 39, 40, 49, 50, 51, 52, 53], [0, 1, 2, 3, 4, 5, 6, 7, 8, 9, 10, 11, 12, 13, 14, 15, 16, 17, 18, 19, 20, 21, 22, 23, 24, 25, 26, 27, 28, 29, 30, 31, 32, 33, 34, 35, 36, 37, 38, 39, 40, 49, 50, 51, 52, 53, 54], [0, 1, 2, 3, 4, 5, 6, 7, 8, 9, 10, 11, 12, 13, 14, 15, 16, 17, 18, 19, 20, 21, 22, 23, 24, 25, 26, 27, 28, 29, 30, 31, 32, 33, 34, 35, 36, 37, 38, 39, 40, 41, 42, 43, 44, 45, 46, 47, 48, 49, 50, 51, 52, 53, 54, 55], [0, 1, 2, 3, 4, 5, 6, 7, 8, 9, 10, 11, 12, 13, 14, 15, 16, 17, 18, 19, 20, 21, 22, 23, 24, 25, 26, 27, 28, 29, 30, 31, 32, 33, 34, 35, 36, 37, 38, 39, 40, 41, 42, 43, 44, 45, 46, 47, 48, 49, 50, 51, 52, 53, 54, 55, 56], [0, 1, 2, 3, 4, 5, 6, 7, 8, 9, 10, 11, 12, 13, 14, 15, 16, 17, 18, 19, 20, 21, 22, 23, 24, 25, 26, 27, 28, 29, 30, 31, 32, 33, 34, 35, 36, 37, 38, 39, 40, 41, 42, 43, 44, 45, 46, 47, 48, 49, 50, 51, 52, 53, 54, 55, 56, 57]] [0, 5, 7, 181] [10]) 
      (.cond (.t 181) 
        (.seq 
        (.reg [⟨some 4, (.mv (.c (.b false))), none, []⟩] [4] [5]) .ret) .skip))) .skip))))) 
  (.reg [⟨some 65, (.mv (.t 7)), none, []⟩,
    ⟨some 66, (.bin .add false [] (.t 65) (.c (.i .i64 1))), none, []⟩,
    ⟨some 7, (.mv (.t 66)), none, []⟩] [0, 5, 7] [])))
def c3_s9 : IC := 
  (.seq 
  (.seq 
  (.reg [⟨some 7, (.mv (.c (.i .i64 0))), none, []⟩] [0, 5, 7] [3]) 
  (.block 2 (.loop c3_b0))) c3_s8)
def c3_b1 : IC := 
  (.seq 
  (.seq 
  (.reg [⟨some 33, (.mv (.t 6)), none, []⟩,
    ⟨some 34, (.bin .lss false [] (.t 33) (.c (.i .i64 3))), none, []⟩] [0, 3, 5, 6, 34] []) 
  (.cond (.t 34) .skip (.exit 0))) 
  (.seq 
  (.block 1 
    (.dreg [⟨some 37, (.mv (.t 6)), none, []⟩,
      ⟨some 38, (.mv (.t 0)), none, []⟩,
      ⟨some 39, (.ixs 7 (.t 38) (.c (.i .i64 0))), none, []⟩,
      ⟨some 40, (.fa 0 (.t 39)), none, []⟩,
      ⟨some 41, (.ld 1 false (.t 40)), none, []⟩,
      ⟨some 42, (.mv (.t 6)), none, []⟩,
      ⟨some 43, (.ixp 3 1 (.t 3) (.t 42)), none, []⟩,
      ⟨some 44, (.ld 1 false (.t 43)), none, []⟩,
      ⟨some 45, (.mv (.t 0)), none, []⟩,
      ⟨some 46, (.mv (.t 0)), none, []⟩,
      ⟨some 47, (.len false (.t 46)), none, []⟩,
      ⟨some 48, (.bin .sub false [] (.t 47) (.c (.i .i64 1))), none, []⟩,
      ⟨some 49, (.ixs 7 (.t 45) (.t 48)), none, []⟩,
      ⟨some 50, (.fa 0 (.t 49)), none, []⟩,
      ⟨some 51, (.ld 1 false (.t 50)), none, []⟩,
      ⟨some 52, (.mv (.t 0)), none, []⟩,
      ⟨some 53, (.ixs 7 (.t 52) (.c (.i .i64 0))), none, []⟩,
      ⟨some 54, (.fa 0 (.t 53)), none, []⟩,
      ⟨some 55, (.ld 1 false (.t 54)), none, []⟩,
      ⟨some 56, (.bin .sub false [] (.t 51) (.t 55)), none, []⟩,
      ⟨some 57, (.bin .add false [] (.t 56) (.c (.i .i64 1))), none, []⟩,
      ⟨some 58, (.call (.f 8) [(.t 44), (.t 57)]), none, []⟩,
      ⟨some 59, (.bin .add false [] (.t 41) (.t 58)), none, []⟩,
      ⟨some 60, (.ixp 3 1 (.t 5) (.t 37)), none, []⟩,
      ⟨none, (.st 1 (.t 60) (.t 59)), none, []⟩] [[], [], [1], [1, 2], [1, 2, 3], [], [5], [5, 6], [], [], [9], [9, 10], [8, 9, 10, 11], [8, 9, 10, 11, 12], [8, 9, 10, 11, 12, 13], [], [15], [15, 16], [15, 16, 17], [8, 9, 10, 11, 12, 13, 14, 15, 16, 17, 18], [8, 9, 10, 11, 12, 13, 14, 15, 16, 17, 18, 19], [5, 6, 7, 8, 9, 10, 11, 12, 13, 14, 15, 16, 17, 18, 19, 20], [1, 2, 3, 4, 5, 6, 7, 8, 9, 10, 11, 12, 13, 14, 15, 16, 17, 18, 19, 20, 21], [0, 1, 2, 3, 4, 5, 6, 7, 8, 9, 10, 11, 12, 13, 14, 15, 16, 17, 18, 19, 20, 21, 22], [0, 1, 2, 3, 4, 5, 6, 7, 8, 9, 10, 11, 12, 13, 14, 15, 16, 17, 18, 19, 20, 21, 22, 23]] [0, 3, 5, 6] [])) 
  (.reg [⟨some 35, (.mv (.t 6)), none, []⟩,
    ⟨some 36, (.bin .add false [] (.t 35) (.c (.i .i64 1))), none, []⟩,
    ⟨some 6, (.mv (.t 36)), none, []⟩] [0, 3, 5, 6] [])))
def c3_s10 : IC := 
  (.seq 
  (.seq 
  (.reg [⟨some 6, (.mv (.c (.i .i64 0))), none, []⟩] [0, 3, 5, 6] []) 
  (.block 0 (.loop c3_b1))) c3_s9)
def c3_s11 : IC := 
  (.seq 
  (.reg [⟨some 5, (.al [(.i .i64 0), (.i .i64 0), (.i .i64 0)]), none, []⟩] [0, 3, 5] []) c3_s10)
def c3_s12 : IC := 
  (.seq 
  (.seq 
  (.reg [⟨some 25, (.mv (.t 0)), none, []⟩,
    ⟨some 26, (.len false (.t 25)), none, []⟩,
    ⟨some 27, (.bin .gtr false [] (.t 26) (.c (.i .i64 12))), none, []⟩,
    ⟨some 28, (.mv (.t 27)), none, []⟩,
    ⟨some 29, (.mv (.t 0)), some (28, false), []⟩,
    ⟨some 30, (.call (.f 7) [(.t 29)]), some (28, false), []⟩,
    ⟨some 31, (.bin .neq false [1] (.t 30) (.c (.i .i64 0))), some (28, false), []⟩,
    ⟨some 32, (.pick (.t 28) (.c (.b true)) (.t 31)), none, []⟩] [0, 3, 32] []) 
  (.cond (.t 32) 
    (.seq 
    (.reg [⟨some 4, (.mv (.c (.b true))), none, []⟩] [4] [3]) .ret) .skip)) c3_s11)
def c3_s13 : IC := 
  (.seq 
  (.seq 
  (.reg [⟨some 23, (.call (.f 6) []), none, []⟩,
    ⟨some 24, (.un .not (.t 23)), none, []⟩] [0, 3, 24] []) 
  (.cond (.t 24) 
    (.seq 
    (.reg [⟨some 4, (.mv (.c (.b false))), none, []⟩] [4] [3]) .ret) .skip)) c3_s12)
def c3 : IC := 
  (.seq 
  (.reg [⟨some 3, (.bx (.t 1)), none, []⟩,
    ⟨some 4, (.mv (.c (.b false))), none, []⟩] [0, 3] []) c3_s13)
def f3 : IF := ⟨c3, 2, [(.t 4)]⟩
def c3_k0 {R : Type} (H : Hk R) (Y : Yt R) (dp : Nat) (K : Ex → Env → Mem → Option R) : Ex → Env → Mem → Option R := (kBlk 2 (kSeq (fun env mem k => evC H Y c3_s8 dp env mem k) K))
def c3_k1 {R : Type} (H : Hk R) (Y : Yt R) (dp : Nat) (K : Ex → Env → Mem → Option R) : Ex → Env → Mem → Option R := (kBlk 0 (kSeq (fun env mem k => evC H Y c3_s9 dp env mem k) K))

/- glidepath/glidepathlaw04.WindEither -/
def c4_s0 : IC := .ret
def c4_s1 : IC := 
  (.seq 
  (.reg [⟨some 4, (.mv (.c (.b true))), none, []⟩] [4] [5]) c4_s0)
def c4_s2 : IC := 
  (.reg [⟨some 150, (.mv (.t 13)), none, []⟩,
    ⟨some 151, (.bin .add false [] (.t 150) (.c (.i .i64 1))), none, []⟩,
    ⟨some 13, (.mv (.t 151)), none, []⟩] [0, 5, 13] [178])
def c4_s3 : IC := 
    (.seq 
    (.reg [⟨some 179, (.mv (.t 14)), none, []⟩,
      ⟨some 180, (.len false (.t 179)), none, []⟩,
      ⟨some 181, (.bin .gtr false [] (.t 180) (.c (.i .i64 0))), none, []⟩] [0, 5, 13, 14, 181] []) 
    (.cond (.t 181) 
      (.seq 
      (.reg [⟨some 183, (.mv (.t 14)), none, []⟩,
        ⟨some 184, (.call (.f 17) [(.t 183)]), none, []⟩,
        ⟨some 182, (.mv (.t 184)), none, []⟩,
        ⟨some 185, (.ex (.t 182) 0), none, []⟩,
        ⟨some 186, (.ex (.t 182) 1), none, []⟩,
        ⟨some 16, (.al [(.sl (.int .i64) [] false true), (.sl (.int .i64) [] false true)]), none, []⟩,
        ⟨none, (.st 2 (.t 16) (.t 185)), none, []⟩,
        ⟨some 17, (.mv (.t 186)), none, []⟩] [0, 5, 13, 17] [16, 178]) 
      (.seq 
      (.reg [⟨some 187, (.mv (.t 17)), none, []⟩,
        ⟨some 188, (.bin .neq false [1] (.t 187) (.c (.i .i64 12))), none, []⟩] [0, 5, 13, 188] []) 
      (.cond (.t 188) 
        (.seq 
        (.reg [⟨some 4, (.mv (.c (.b false))), none, []⟩] [4] [5]) .ret) .skip))) .skip))
def c4_b1 : IC := 
  (.seq 
  (.seq 
  (.reg [⟨some 158, (.mv (.t 15)), none, []⟩,
    ⟨some 159, (.fa 0 (.t 5)), none, []⟩,
    ⟨some 160, (.ld 1 false (.t 159)), none, []⟩,
    ⟨some 161, (.len false (.t 160)), none, []⟩,
    ⟨some 162, (.bin .lss false [] (.t 158) (.t 161)), none, []⟩] [0, 5, 13, 14, 15, 162] []) 
  (.cond (.t 162) .skip (.exit 2))) 
  (.seq 
  (.block 3 
    (.seq 
    (.reg [⟨some 165, (.mv (.t 15)), none, []⟩,
      ⟨some 166, (.mv (.t 13)), none, []⟩,
      ⟨some 167, (.bin .neq false [1] (.t 165) (.t 166)), none, []⟩] [0, 5, 13, 14, 15, 167] []) 
    (.cond (.t 167) 
      (.reg [⟨some 168, (.mv (.t 14)), none, []⟩,
        ⟨some 169, (.mv (.t 0)), none, []⟩,
        ⟨some 170, (.fa 0 (.t 5)), none, []⟩,
        ⟨some 171, (.ld 1 false (.t 170)), none, []⟩,
        ⟨some 172, (.mv (.t 15)), none, []⟩,
        ⟨some 173, (.ixs 1 (.t 171) (.t 172)), none, []⟩,
        ⟨some 174, (.ld 1 false (.t 173)), none, []⟩,
        ⟨some 175, (.ixs 5 (.t 169) (.t 174)), none, []⟩,
        ⟨some 176, (.ld 5 true (.t 175)), none, []⟩,
        ⟨some 177, (.bsl (.prod (.prod (.int .i64) (.prod (.int .i64) (.int .i64))) (.prod (.int .i64) (.int .i64))) false [(.t 176)]), none, []⟩,
        ⟨some 178, (.app (.prod (.prod (.int .i64) (.prod (.int .i64) (.int .i64))) (.prod (.int .i64) (.int .i64))) 879609302220 (.t 168) (.t 177)), none, []⟩,
        ⟨some 14, (.mv (.t 178)), none, []⟩] [0, 5, 13, 14, 15] []) .skip))) 
  (.reg [⟨some 163, (.mv (.t 15)), none, []⟩,
    ⟨some 164, (.bin .add false [] (.t 163) (.c (.i .i64 1))), none, []⟩,
    ⟨some 15, (.mv (.t 164)), none, []⟩] [0, 5, 13, 14, 15] [])))
def c4_b0 : IC := 
  (.seq 
  (.seq 
  (.reg [⟨some 145, (.mv (.t 13)), none, []⟩,
    ⟨some 146, (.fa 0 (.t 5)), none, []⟩,
    ⟨some 147, (.ld 1 false (.t 146)), none, []⟩,
    ⟨some 148, (.len false (.t 147)), none, []⟩,
    ⟨some 149, (.bin .lss false [] (.t 145) (.t 148)), none, []⟩] [0, 5, 13, 149] []) 
  (.cond (.t 149) .skip (.exit 0))) 
  (.seq 
  (.block 1 
    (.seq 
    (.seq 
    (.reg [⟨some 152, (.fa 1 (.t 5)), none, []⟩,
      ⟨some 153, (.ld 1 false (.t 152)), none, []⟩,
      ⟨some 154, (.mv (.t 13)), none, []⟩,
      ⟨some 155, (.ixs 1 (.t 153) (.t 154)), none, []⟩,
      ⟨some 156, (.ld 1 false (.t 155)), none, []⟩,
      ⟨some 157, (.bin .eql false [1] (.t 156) (.c (.i .i64 0))), none, []⟩] [0, 5, 13, 157] []) 
    (.cond (.t 157) 
      (.seq 
      (.reg [⟨some 4, (.mv (.c (.b false))), none, []⟩] [4] [5]) .ret) .skip)) 
    (.seq 
    (.reg [⟨some 14, (.mv (.c (.sl (.prod (.prod (.int .i64) (.prod (.int .i64) (.int .i64))) (.prod (.int .i64) (.int .i64))) [] false true))), none, []⟩] [0, 5, 13, 14] []) 
    (.seq 
    (.seq 
    (.reg [⟨some 15, (.mv (.c (.i .i64 0))), none, []⟩] [0, 5, 13, 14, 15] []) 
    (.block 2 (.loop c4_b1))) c4_s3)))) c4_s2))
def c4_s4 : IC := 
  (.seq 
  (.seq 
  (.reg [⟨some 13, (.mv (.c (.i .i64 0))), none, []⟩] [0, 5, 13] []) 
  (.block 0 (.loop c4_b0))) c4_s1)
def c4_s5 : IC := 
  (.seq 
  (.seq 
  (.reg [⟨some 110, (.mv (.t 12)), none, []⟩,
    ⟨some 111, (.bin .neq false [1] (.t 110) (.c (.i .i64 0))), none, []⟩,
    ⟨some 112, (.mv (.t 111)), none, []⟩,
    ⟨some 113, (.fa 0 (.t 11)), some (112, false), []⟩,
    ⟨some 114, (.ld 1 false (.t 113)), some (112, false), []⟩,
    ⟨some 115, (.bin .leq false [] (.t 114) (.c (.i .i64 0))), some (112, false), []⟩,
    ⟨some 116, (.mv (.t 115)), some (112, false), []⟩,
    ⟨some 117, (.fa 1 (.t 11)), some (116, true), []⟩,
    ⟨some 118, (.ld 1 false (.t 117)), some (116, true), []⟩,
    ⟨some 119, (.bin .geq false [] (.t 118) (.c (.i .i64 0))), some (116, true), []⟩,
    ⟨some 120, (.pick (.t 116) (.t 119) (.c (.b false))), some (112, false), []⟩,
    ⟨some 121, (.pick (.t 112) (.c (.b true)) (.t 120)), none, []⟩,
    ⟨some 122, (.mv (.t 121)), none, []⟩,
    ⟨some 123, (.fa 0 (.t 5)), some (122, false), []⟩,
    ⟨some 124, (.ld 1 false (.t 123)), some (122, false), []⟩,
    ⟨some 125, (.len false (.t 124)), some (122, false), []⟩,
    ⟨some 126, (.mv (.t 0)), some (122, false), []⟩,
    ⟨some 127, (.len false (.t 126)), some (122, false), []⟩,
    ⟨some 128, (.bin .gtr false [] (.t 125) (.t 127)), some (122, false), []⟩,
    ⟨some 129, (.pick (.t 122) (.c (.b true)) (.t 128)), none, []⟩,
    ⟨some 130, (.mv (.t 129)), none, []⟩,
    ⟨some 131, (.fa 1 (.t 5)), some (130, false), []⟩,
    ⟨some 132, (.ld 1 false (.t 131)), some (130, false), []⟩,
    ⟨some 133, (.len false (.t 132)), some (130, false), []⟩,
    ⟨some 134, (.fa 0 (.t 5)), some (130, false), []⟩,
    ⟨some 135, (.ld 1 false (.t 134)), some (130, false), []⟩,
    ⟨some 136, (.len false (.t 135)), some (130, false), []⟩,
    ⟨some 137, (.bin .neq false [1] (.t 133) (.t 136)), some (130, false), []⟩,
    ⟨some 138, (.pick (.t 130) (.c (.b true)) (.t 137)), none, []⟩,
    ⟨some 139, (.mv (.t 138)), none, []⟩,
    ⟨some 140, (.mv (.t 0)), some (139, false), []⟩,
    ⟨some 141, (.ld 2 true (.t 5)), some (139, false), []⟩,
    ⟨some 142, (.call (.f 23) [(.t 140), (.t 141)]), some (139, false), []⟩,
    ⟨some 143, (.bin .neq false [1] (.t 142) (.c (.i .i64 0))), some (139, false), []⟩,
    ⟨some 144, (.pick (.t 139) (.c (.b true)) (.t 143)), none, []⟩] [0, 5, 144] [11]) 
  (.cond (.t 144) 
    (.seq 
    (.reg [⟨some 4, (.mv (.c (.b false))), none, []⟩] [4] [5]) .ret) .skip)) c4_s4)
def c4_s6 : IC := 
  (.seq 
  (.dreg [⟨some 103, (.mv (.t 0)), none, []⟩,
    ⟨some 104, (.call (.f 18) [(.t 103)]), none, []⟩,
    ⟨some 105, (.ld 2 true (.t 5)), none, []⟩,
    ⟨some 106, (.call (.f 22) [(.t 105)]), none, []⟩,
    ⟨some 107, (.call (.f 21) [(.t 104), (.t 106)]), none, []⟩,
    ⟨some 102, (.mv (.t 107)), none, []⟩,
    ⟨some 108, (.ex (.t 102) 0), none, []⟩,
    ⟨some 109, (.ex (.t 102) 1), none, []⟩,
    ⟨some 11, (.al [(.i .i64 0), (.i .i64 0)]), none, []⟩,
    ⟨none, (.st 2 (.t 11) (.t 108)), none, []⟩,
    ⟨some 12, (.mv (.t 109)), none, []⟩] [[], [0], [], [0, 1, 2], [0, 1, 2, 3], [0, 1, 2, 3, 4], [0, 1, 2, 3, 4, 5], [0, 1, 2, 3, 4, 5], [], [0, 1, 2, 3, 4, 5, 6, 8], [0, 1, 2, 3, 4, 5, 6, 7, 8, 9]] [0, 5, 11, 12] []) c4_s5)
def c4_s7 : IC := 
  (.seq 
  (.seq 
  (.reg [⟨some 100, (.mv (.t 6)), none, []⟩,
    ⟨some 101, (.bin .neq false [1] (.t 100) (.c (.i .i64 0))), none, []⟩] [0, 5, 101] []) 
  (.cond (.t 101) 
    (.seq 
    (.reg [⟨some 4, (.mv (.c (.b true))), none, []⟩] [4] [5]) .ret) .skip)) c4_s6)
def c4_s8 : IC := 
  (.seq 
  (.seq 
  (.reg [⟨some 81, (.mv (.t 8)), none, []⟩,
    ⟨some 82, (.bin .eql false [1] (.t 81) (.c (.i .i64 0))), none, []⟩,
    ⟨some 83, (.mv (.t 82)), none, []⟩,
    ⟨some 84, (.mv (.t 6)), some (83, true), []⟩,
    ⟨some 85, (.bin .eql false [1] (.t 84) (.c (.i .i64 0))), some (83, true), []⟩,
    ⟨some 86, (.mv (.t 85)), some (83, true), []⟩,
    ⟨some 87, (.mv (.t 7)), some (86, false), []⟩,
    ⟨some 88, (.len false (.t 87)), some (86, false), []⟩,
    ⟨some 89, (.bin .eql false [1] (.t 88) (.c (.i .i64 0))), some (86, false), []⟩,
    ⟨some 90, (.pick (.t 86) (.c (.b true)) (.t 89)), some (83, true), []⟩,
    ⟨some 91, (.pick (.t 83) (.t 90) (.c (.b false))), none, []⟩,
    ⟨some 92, (.mv (.t 91)), none, []⟩,
    ⟨some 93, (.mv (.t 8)), some (92, false), []⟩,
    ⟨some 94, (.bin .eql false [1] (.t 93) (.c (.i .i64 12))), some (92, false), []⟩,
    ⟨some 95, (.mv (.t 94)), some (92, false), []⟩,
    ⟨some 96, (.mv (.t 6)), some (95, true), []⟩,
    ⟨some 97, (.bin .neq false [1] (.t 96) (.c (.i .i64 0))), some (95, true), []⟩,
    ⟨some 98, (.pick (.t 95) (.t 97) (.c (.b false))), some (92, false), []⟩,
    ⟨some 99, (.pick (.t 92) (.c (.b true)) (.t 98)), none, []⟩] [0, 5, 6, 99] []) 
  (.cond (.t 99) 
    (.seq 
    (.reg [⟨some 4, (.mv (.c (.b false))), none, []⟩] [4] [5]) .ret) .skip)) c4_s7)
def c4_s9 : IC := 
  (.seq 
  (.seq 
  (.reg [⟨some 52, (.mv (.t 6)), none, []⟩,
    ⟨some 53, (.bin .neq false [1] (.t 52) (.c (.i .i64 0))), none, []⟩,
    ⟨some 54, (.mv (.t 53)), none, []⟩,
    ⟨some 55, (.mv (.t 6)), some (54, true), []⟩,
    ⟨some 56, (.bin .neq false [1] (.t 55) (.c (.i .i64 12))), some (54, true), []⟩,
    ⟨some 57, (.pick (.t 54) (.t 56) (.c (.b false))), none, []⟩,
    ⟨some 58, (.mv (.t 57)), none, []⟩,
    ⟨some 59, (.mv (.t 8)), some (58, false), []⟩,
    ⟨some 60, (.bin .neq false [1] (.t 59) (.c (.i .i64 0))), some (58, false), []⟩,
    ⟨some 61, (.mv (.t 60)), some (58, false), []⟩,
    ⟨some 62, (.mv (.t 8)), some (61, true), []⟩,
    ⟨some 63, (.bin .neq false [1] (.t 62) (.c (.i .i64 12))), some (61, true), []⟩,
    ⟨some 64, (.pick (.t 61) (.t 63) (.c (.b false))), some (58, false), []⟩,
    ⟨some 65, (.mv (.t 64)), some (58, false), []⟩,
    ⟨some 66, (.mv (.t 8)), some (65, true), []⟩,
    ⟨some 67, (.bin .neq false [1] (.t 66) (.c (.i .i64 19))), some (65, true), []⟩,
    ⟨some 68, (.pick (.t 65) (.t 67) (.c (.b false))), some (58, false), []⟩,
    ⟨some 69, (.pick (.t 58) (.c (.b true)) (.t 68)), none, []⟩,
    ⟨some 70, (.mv (.t 69)), none, []⟩,
    ⟨some 71, (.mv (.t 10)), some (70, false), []⟩,
    ⟨some 72, (.bin .neq false [1] (.t 71) (.c (.i .i64 0))), some (70, false), []⟩,
    ⟨some 73, (.pick (.t 70) (.c (.b true)) (.t 72)), none, []⟩,
    ⟨some 74, (.mv (.t 73)), none, []⟩,
    ⟨some 75, (.mv (.t 9)), some (74, false), []⟩,
    ⟨some 76, (.mv (.t 75)), some (74, false), []⟩,
    ⟨some 77, (.mv (.t 6)), some (76, true), []⟩,
    ⟨some 78, (.bin .eql false [1] (.t 77) (.c (.i .i64 0))), some (76, true), []⟩,
    ⟨some 79, (.pick (.t 76) (.t 78) (.c (.b false))), some (74, false), []⟩,
    ⟨some 80, (.pick (.t 74) (.c (.b true)) (.t 79)), none, []⟩] [0, 5, 6, 7, 8, 80] []) 
  (.cond (.t 80) 
    (.seq 
    (.reg [⟨some 4, (.mv (.c (.b false))), none, []⟩] [4] [5]) .ret) .skip)) c4_s8)
def c4_s10 : IC := 
  (.seq 
  (.dreg [⟨some 46, (.mv (.t 0)), none, []⟩,
    ⟨some 47, (.call (.f 18) [(.t 46)]), none, []⟩,
    ⟨some 48, (.ld 4 true (.t 3)), none, []⟩,
    ⟨some 49, (.call (.f 20) [(.t 47), (.t 48)]), none, []⟩,
    ⟨some 45, (.mv (.t 49)), none, []⟩,
    ⟨some 50, (.ex (.t 45) 0), none, []⟩,
    ⟨some 51, (.ex (.t 45) 1), none, []⟩,
    ⟨some 9, (.mv (.t 50)), none, []⟩,
    ⟨some 10, (.mv (.t 51)), none, []⟩] [[], [0], [], [0, 1, 2], [0, 1, 2, 3], [0, 1, 2, 3, 4], [0, 1, 2, 3, 4], [0, 1, 2, 3, 4, 5], [0, 1, 2, 3, 4, 5, 6, 7]] [0, 5, 6, 7, 8, 9, 10] [3]) c4_s9)
def c4_s11 : IC := 
  (.seq 
  (.reg [⟨some 40, (.mv (.t 0)), none, []⟩,
    ⟨some 41, (.call (.f 18) [(.t 40)]), none, []⟩,
    ⟨some 42, (.call (.f 19) [(.t 41)]), none, []⟩,
    ⟨some 39, (.mv (.t 42)), none, []⟩,
    ⟨some 43, (.ex (.t 39) 0), none, []⟩,
    ⟨some 44, (.ex (.t 39) 1), none, []⟩,
    ⟨some 7, (.mv (.t 43)), none, []⟩,
    ⟨some 8, (.mv (.t 44)), none, []⟩] [0, 3, 5, 6, 7, 8] []) c4_s10)
def c4_s12 : IC := 
  (.seq 
  (.reg [⟨some 34, (.mv (.t 0)), none, []⟩,
    ⟨some 35, (.call (.f 18) [(.t 34)]), none, []⟩,
    ⟨some 36, (.call (.f 17) [(.t 35)]), none, []⟩,
    ⟨some 33, (.mv (.t 36)), none, []⟩,
    ⟨some 37, (.ex (.t 33) 0), none, []⟩,
    ⟨some 38, (.ex (.t 33) 1), none, []⟩,
    ⟨some 5, (.al [(.sl (.int .i64) [] false true), (.sl (.int .i64) [] false true)]), none, []⟩,
    ⟨none, (.st 2 (.t 5) (.t 37)), none, []⟩,
    ⟨some 6, (.mv (.t 38)), none, []⟩] [0, 3, 5, 6] []) c4_s11)
def c4_s13 : IC := 
  (.seq 
  (.seq 
  (.reg [⟨some 20, (.mv (.t 0)), none, []⟩,
    ⟨some 21, (.call (.f 14) [(.t 20)]), none, []⟩,
    ⟨some 22, (.un .not (.t 21)), none, []⟩,
    ⟨some 23, (.mv (.t 22)), none, []⟩,
    ⟨some 24, (.mv (.t 0)), some (23, false), []⟩,
    ⟨some 25, (.call (.f 15) [(.t 24)]), some (23, false), []⟩,
    ⟨some 26, (.bin .neq false [1] (.t 25) (.c (.i .i64 0))), some (23, false), []⟩,
    ⟨some 27, (.pick (.t 23) (.c (.b true)) (.t 26)), none, []⟩,
    ⟨some 28, (.mv (.t 27)), none, []⟩,
    ⟨some 29, (.ld 4 true (.t 3)), some (28, false), []⟩,
    ⟨some 30, (.call (.f 16) [(.t 29)]), some (28, false), []⟩,
    ⟨some 31, (.bin .neq false [1] (.t 30) (.c (.i .i64 0))), some (28, false), []⟩,
    ⟨some 32, (.pick (.t 28) (.c (.b true)) (.t 31)), none, []⟩] [0, 3, 32] []) 
  (.cond (.t 32) 
    (.seq 
    (.reg [⟨some 4, (.mv (.c (.b true))), none, []⟩] [4] [3]) .ret) .skip)) c4_s12)
def c4_s14 : IC := 
  (.seq 
  (.seq 
  (.reg [⟨some 18, (.call (.f 6) []), none, []⟩,
    ⟨some 19, (.un .not (.t 18)), none, []⟩] [0, 3, 19] []) 
  (.cond (.t 19) 
    (.seq 
    (.reg [⟨some 4, (.mv (.c (.b false))), none, []⟩] [4] [3]) .ret) .skip)) c4_s13)
def c4 : IC := 
  (.seq 
  (.reg [⟨some 3, (.bx (.t 1)), none, []⟩,
    ⟨some 4, (.mv (.c (.b false))), none, []⟩] [0, 3] []) c4_s14)
def f4 : IF := ⟨c4, 2, [(.t 4)]⟩
def c4_k1 {R : Type} (H : Hk R) (Y : Yt R) (dp : Nat) (K : Ex → Env → Mem → Option R) : Ex → Env → Mem → Option R := (kBlk 2 (kSeq (fun env mem k => evC H Y c4_s3 dp env mem k) (kBlk 1 (kSeq (fun env mem k => evC H Y c4_s2 dp env mem k) K))))
def c4_k0 {R : Type} (H : Hk R) (Y : Yt R) (dp : Nat) (K : Ex → Env → Mem → Option R) : Ex → Env → Mem → Option R := (kBlk 0 (kSeq (fun env mem k => evC H Y c4_s1 dp env mem k) K))

/- glidepath/glidepathlaw04.WindEquations -/
def c5_s0 : IC := .ret
def c5_s1 : IC := 
  (.seq 
  (.reg [⟨some 200, (.ld 2 true (.t 21)), none, []⟩,
    ⟨some 201, (.call (.f 31) [(.t 200)]), none, []⟩,
    ⟨some 202, (.mv (.t 201)), none, []⟩,
    ⟨some 203, (.fa 0 (.t 21)), some (202, true), []⟩,
    ⟨some 204, (.ld 1 false (.t 203)), some (202, true), []⟩,
    ⟨some 205, (.bin .geq false [] (.t 204) (.c (.i .i64 0))), some (202, true), []⟩,
    ⟨some 206, (.pick (.t 202) (.t 205) (.c (.b false))), none, []⟩,
    ⟨some 207, (.mv (.t 206)), none, []⟩,
    ⟨some 208, (.fa 0 (.t 21)), some (207, true), []⟩,
    ⟨some 209, (.ld 1 false (.t 208)), some (207, true), []⟩,
    ⟨some 210, (.bin .mul false [] (.c (.i .i64 4)) (.t 209)), some (207, true), []⟩,
    ⟨some 211, (.mv (.t 14)), some (207, true), []⟩,
    ⟨some 212, (.fa 1 (.t 21)), some (207, true), []⟩,
    ⟨some 213, (.ld 1 false (.t 212)), some (207, true), []⟩,
    ⟨some 214, (.bin .mul false [] (.t 211) (.t 213)), some (207, true), []⟩,
    ⟨some 215, (.bin .leq false [] (.t 210) (.t 214)), some (207, true), []⟩,
    ⟨some 216, (.pick (.t 207) (.t 215) (.c (.b false))), none, []⟩,
    ⟨some 6, (.mv (.t 216)), none, []⟩] [6] [21]) c5_s0)
def c5_s2 : IC := 
  (.seq 
  (.seq 
  (.reg [⟨some 196, (.mv (.t 22)), none, []⟩,
    ⟨some 197, (.bin .neq false [1] (.t 196) (.c (.i .i64 0))), none, []⟩] [14, 21, 22, 197] []) 
  (.cond (.t 197) 
    (.seq 
    (.reg [⟨some 198, (.mv (.t 22)), none, []⟩,
      ⟨some 199, (.bin .eql false [1] (.t 198) (.c (.i .i64 8))), none, []⟩,
      ⟨some 6, (.mv (.t 199)), none, []⟩] [6] [21]) .ret) .skip)) c5_s1)
def c5_s3 : IC := 
  (.seq 
  (.reg [⟨some 191, (.mv (.t 0)), none, []⟩,
    ⟨some 192, (.call (.f 18) [(.t 191)]), none, []⟩,
    ⟨some 193, (.call (.f 30) [(.t 192)]), none, []⟩,
    ⟨some 190, (.mv (.t 193)), none, []⟩,
    ⟨some 194, (.ex (.t 190) 0), none, []⟩,
    ⟨some 195, (.ex (.t 190) 1), none, []⟩,
    ⟨some 21, (.al [(.i .i64 0), (.i .i64 0)]), none, []⟩,
    ⟨none, (.st 2 (.t 21) (.t 194)), none, []⟩,
    ⟨some 22, (.mv (.t 195)), none, []⟩] [14, 21, 22] []) c5_s2)
def c5_s4 : IC := 
  (.seq 
  (.seq 
  (.reg [⟨some 168, (.mv (.t 18)), none, []⟩,
    ⟨some 169, (.bin .neq false [1] (.t 168) (.c (.i .i64 0))), none, []⟩,
    ⟨some 170, (.mv (.t 169)), none, []⟩,
    ⟨some 171, (.ld 4 true (.t 17)), some (170, false), []⟩,
    ⟨some 172, (.ixp 3 1 (.t 5) (.c (.i .i64 0))), some (170, false), []⟩,
    ⟨some 173, (.ld 1 false (.t 172)), some (170, false), []⟩,
    ⟨some 174, (.ixp 3 1 (.t 5) (.c (.i .i64 1))), some (170, false), []⟩,
    ⟨some 175, (.ld 1 false (.t 174)), some (170, false), []⟩,
    ⟨some 176, (.ixp 3 1 (.t 5) (.c (.i .i64 2))), some (170, false), []⟩,
    ⟨some 177, (.ld 1 false (.t 176)), some (170, false), []⟩,
    ⟨some 178, (.bd [(.i .i64 0), (.i .i64 0), (.i .i64 0), (.i .i64 0)] [(0, 1, (.t 173)), (1, 1, (.t 175)), (2, 1, (.t 177)), (3, 1, (.c (.i .i64 1)))]), some (170, false), []⟩,
    ⟨some 179, (.bin .neq true [1, 1, 1, 1] (.t 171) (.t 178)), some (170, false), []⟩,
    ⟨some 180, (.pick (.t 170) (.c (.b true)) (.t 179)), none, []⟩,
    ⟨some 181, (.mv (.t 180)), none, []⟩,
    ⟨some 182, (.mv (.t 20)), some (181, false), []⟩,
    ⟨some 183, (.bin .neq false [1] (.t 182) (.c (.i .i64 0))), some (181, false), []⟩,
    ⟨some 184, (.pick (.t 181) (.c (.b true)) (.t 183)), none, []⟩,
    ⟨some 185, (.mv (.t 184)), none, []⟩,
    ⟨some 186, (.ld 2 true (.t 19)), some (185, false), []⟩,
    ⟨some 187, (.bd [(.i .i64 0), (.i .i64 0)] [(0, 1, (.c (.i .i64 0))), (1, 1, (.c (.i .i64 1)))]), some (185, false), []⟩,
    ⟨some 188, (.bin .neq true [1, 1] (.t 186) (.t 187)), some (185, false), []⟩,
    ⟨some 189, (.pick (.t 185) (.c (.b true)) (.t 188)), none, []⟩] [0, 14, 189] [5, 17, 19]) 
  (.cond (.t 189) 
    (.seq 
    (.reg [⟨some 6, (.mv (.c (.b false))), none, []⟩] [6] []) .ret) .skip)) c5_s3)
def c5_s5 : IC := 
  (.seq 
  (.reg [⟨some 163, (.mv (.t 13)), none, []⟩,
    ⟨some 164, (.call (.f 18) [(.t 163)]), none, []⟩,
    ⟨some 165, (.call (.f 30) [(.t 164)]), none, []⟩,
    ⟨some 162, (.mv (.t 165)), none, []⟩,
    ⟨some 166, (.ex (.t 162) 0), none, []⟩,
    ⟨some 167, (.ex (.t 162) 1), none, []⟩,
    ⟨some 19, (.al [(.i .i64 0), (.i .i64 0)]), none, []⟩,
    ⟨none, (.st 2 (.t 19) (.t 166)), none, []⟩,
    ⟨some 20, (.mv (.t 167)), none, []⟩] [0, 5, 14, 17, 18, 19, 20] []) c5_s4)
def c5_s6 : IC := 
  (.seq 
  (.reg [⟨some 157, (.mv (.t 13)), none, []⟩,
    ⟨some 158, (.call (.f 18) [(.t 157)]), none, []⟩,
    ⟨some 159, (.call (.f 27) [(.t 158)]), none, []⟩,
    ⟨some 156, (.mv (.t 159)), none, []⟩,
    ⟨some 160, (.ex (.t 156) 0), none, []⟩,
    ⟨some 161, (.ex (.t 156) 1), none, []⟩,
    ⟨some 17, (.al [(.i .i64 0), (.i .i64 0), (.i .i64 0), (.i .i64 0)]), none, []⟩,
    ⟨none, (.st 4 (.t 17) (.t 160)), none, []⟩,
    ⟨some 18, (.mv (.t 161)), none, []⟩] [0, 5, 13, 14, 17, 18] []) c5_s5)
def c5_b0 : IC := 
  (.seq 
  (.seq 
  (.reg [⟨some 101, (.mv (.t 15)), none, []⟩,
    ⟨some 102, (.mv (.t 0)), none, []⟩,
    ⟨some 103, (.len false (.t 102)), none, []⟩,
    ⟨some 104, (.bin .lss false [] (.t 101) (.t 103)), none, []⟩] [0, 5, 13, 14, 15, 104] []) 
  (.cond (.t 104) .skip (.exit 0))) 
  (.seq 
  (.block 1 
    (.seq 
    (.dreg [⟨some 107, (.mv (.t 0)), none, []⟩,
      ⟨some 108, (.mv (.t 15)), none, []⟩,
      ⟨some 109, (.ixs 5 (.t 107) (.t 108)), none, []⟩,
      ⟨some 110, (.fa 0 (.t 109)), none, []⟩,
      ⟨some 111, (.ld 3 true (.t 110)), none, []⟩,
      ⟨some 112, (.ld 3 true (.t 5)), none, []⟩,
      ⟨some 113, (.call (.f 29) [(.t 111), (.t 112)]), none, []⟩,
      ⟨some 16, (.mv (.t 113)), none, []⟩] [[], [], [0, 1], [0, 1, 2], [0, 1, 2, 3], [], [0, 1, 2, 3, 4, 5], [0, 1, 2, 3, 4, 5, 6]] [0, 5, 13, 14, 15, 16] []) 
    (.seq 
    (.reg [⟨some 114, (.mv (.t 13)), none, []⟩,
      ⟨some 115, (.mv (.t 15)), none, []⟩,
      ⟨some 116, (.mv (.t 16)), none, []⟩,
      ⟨some 117, (.mv (.t 16)), none, []⟩,
      ⟨some 118, (.bd [(.i .i64 0), (.i .i64 0)] [(0, 1, (.t 116)), (1, 1, (.t 117))]), none, []⟩,
      ⟨some 119, (.ixs 5 (.t 114) (.t 115)), none, []⟩,
      ⟨some 120, (.fa 3 (.t 119)), none, []⟩,
      ⟨none, (.st 2 (.t 120) (.t 118)), none, []⟩] [0, 5, 13, 14, 15, 16] []) 
    (.dreg [⟨some 121, (.mv (.t 14)), none, []⟩,
      ⟨some 122, (.mv (.t 0)), none, []⟩,
      ⟨some 123, (.mv (.t 15)), none, []⟩,
      ⟨some 124, (.ixs 5 (.t 122) (.t 123)), none, []⟩,
      ⟨some 125, (.fa 3 (.t 124)), none, []⟩,
      ⟨some 126, (.fa 0 (.t 125)), none, []⟩,
      ⟨some 127, (.ld 1 false (.t 126)), none, []⟩,
      ⟨some 128, (.mv (.t 0)), none, []⟩,
      ⟨some 129, (.mv (.t 15)), none, []⟩,
      ⟨some 130, (.ixs 5 (.t 128) (.t 129)), none, []⟩,
      ⟨some 131, (.fa 3 (.t 130)), none, []⟩,
      ⟨some 132, (.fa 1 (.t 131)), none, []⟩,
      ⟨some 133, (.ld 1 false (.t 132)), none, []⟩,
      ⟨some 134, (.bin .add false [] (.t 127) (.t 133)), none, []⟩,
      ⟨some 135, (.mv (.t 16)), none, []⟩,
      ⟨some 136, (.bin .mul false [] (.c (.i .i64 2)) (.t 135)), none, []⟩,
      ⟨some 137, (.bin .sub false [] (.t 134) (.t 136)), none, []⟩,
      ⟨some 138, (.mv (.t 0)), none, []⟩,
      ⟨some 139, (.mv (.t 15)), none, []⟩,
      ⟨some 140, (.ixs 5 (.t 138) (.t 139)), none, []⟩,
      ⟨some 141, (.fa 3 (.t 140)), none, []⟩,
      ⟨some 142, (.fa 0 (.t 141)), none, []⟩,
      ⟨some 143, (.ld 1 false (.t 142)), none, []⟩,
      ⟨some 144, (.mv (.t 0)), none, []⟩,
      ⟨some 145, (.mv (.t 15)), none, []⟩,
      ⟨some 146, (.ixs 5 (.t 144) (.t 145)), none, []⟩,
      ⟨some 147, (.fa 3 (.t 146)), none, []⟩,
      ⟨some 148, (.fa 1 (.t 147)), none, []⟩,
      ⟨some 149, (.ld 1 false (.t 148)), none, []⟩,
      ⟨some 150, (.bin .add false [] (.t 143) (.t 149)), none, []⟩,
      ⟨some 151, (.mv (.t 16)), none, []⟩,
      ⟨some 152, (.bin .mul false [] (.c (.i .i64 2)) (.t 151)), none, []⟩,
      ⟨some 153, (.bin .sub false [] (.t 150) (.t 152)), none, []⟩,
      ⟨some 154, (.bin .mul false [] (.t 137) (.t 153)), none, []⟩,
      ⟨some 155, (.bin .add false [] (.t 121) (.t 154)), none, []⟩,
      ⟨some 14, (.mv (.t 155)), none, []⟩] [[], [], [], [1, 2], [1, 2, 3], [1, 2, 3, 4], [1, 2, 3, 4, 5], [], [], [7, 8], [7, 8, 9], [7, 8, 9, 10], [7, 8, 9, 10, 11], [1, 2, 3, 4, 5, 6, 7, 8, 9, 10, 11, 12], [], [14], [1, 2, 3, 4, 5, 6, 7, 8, 9, 10, 11, 12, 13, 14, 15], [], [], [17, 18], [17, 18, 19], [17, 18, 19, 20], [17, 18, 19, 20, 21], [], [], [23, 24], [23, 24, 25], [23, 24, 25, 26], [23, 24, 25, 26, 27], [17, 18, 19, 20, 21, 22, 23, 24, 25, 26, 27, 28], [], [30], [17, 18, 19, 20, 21, 22, 23, 24, 25, 26, 27, 28, 29, 30, 31], [1, 2, 3, 4, 5, 6, 7, 8, 9, 10, 11, 12, 13, 14, 15, 16, 17, 18, 19, 20, 21, 22, 23, 24, 25, 26, 27, 28, 29, 30, 31, 32], [0, 1, 2, 3, 4, 5, 6, 7, 8, 9, 10, 11, 12, 13, 14, 15, 16, 17, 18, 19, 20, 21, 22, 23, 24, 25, 26, 27, 28, 29, 30, 31, 32, 33], [0, 1, 2, 3, 4, 5, 6, 7, 8, 9, 10, 11, 12, 13, 14, 15, 16, 17, 18, 19, 20, 21, 22, 23, 24, 25, 26, 27, 28, 29, 30, 31, 32, 33, 34]] [0, 5, 13, 14, 15] [])))) 
  (.reg [⟨some 105, (.mv (.t 15)), none, []⟩,
    ⟨some 106, (.bin .add false [] (.t 105) (.c (.i .i64 1))), none, []⟩,
    ⟨some 15, (.mv (.t 106)), none, []⟩] [0, 5, 13, 14, 15] [])))
def c5_s7 : IC := 
  (.seq 
  (.seq 
  (.reg [⟨some 15, (.mv (.c (.i .i64 0))), none, []⟩] [0, 5, 13, 14, 15] []) 
  (.block 0 (.loop c5_b0))) c5_s6)
def c5_s8 : IC := 
  (.seq 
  (.reg [⟨some 14, (.mv (.c (.i .i64 0))), none, []⟩] [0, 5, 13, 14] []) c5_s7)
def c5_s9 : IC := 
  (.seq 
  (.reg [⟨some 99, (.mv (.t 0)), none, []⟩,
    ⟨some 100, (.call (.f 18) [(.t 99)]), none, []⟩,
    ⟨some 13, (.mv (.t 100)), none, []⟩] [0, 5, 13] [4, 7]) c5_s8)
def c5_s10 : IC := 
  (.seq 
  (.seq 
  (.reg [⟨some 83, (.ld 4 true (.t 4)), none, []⟩,
    ⟨some 84, (.call (.f 16) [(.t 83)]), none, []⟩,
    ⟨some 85, (.bin .eql false [1] (.t 84) (.c (.i .i64 0))), none, []⟩] [0, 4, 5, 7, 85] []) 
  (.cond (.t 85) 
    (.seq 
    (.dreg [⟨some 87, (.mv (.t 0)), none, []⟩,
      ⟨some 88, (.call (.f 18) [(.t 87)]), none, []⟩,
      ⟨some 89, (.ld 4 true (.t 4)), none, []⟩,
      ⟨some 90, (.call (.f 28) [(.t 88), (.t 89)]), none, []⟩,
      ⟨some 86, (.mv (.t 90)), none, []⟩,
      ⟨some 91, (.ex (.t 86) 0), none, []⟩,
      ⟨some 92, (.ex (.t 86) 1), none, []⟩,
      ⟨some 11, (.mv (.t 91)), none, []⟩,
      ⟨some 12, (.mv (.t 92)), none, []⟩] [[], [0], [], [0, 1, 2], [0, 1, 2, 3], [0, 1, 2, 3, 4], [0, 1, 2, 3, 4], [0, 1, 2, 3, 4, 5], [0, 1, 2, 3, 4, 5, 6, 7]] [0, 4, 5, 7, 12] []) 
    (.seq 
    (.reg [⟨some 93, (.mv (.t 12)), none, []⟩,
      ⟨some 94, (.bin .eql false [1] (.t 93) (.c (.i .i64 0))), none, []⟩,
      ⟨some 95, (.ld 4 true (.t 4)), none, []⟩,
      ⟨some 96, (.ld 4 true (.t 7)), none, []⟩,
      ⟨some 97, (.bin .eql true [1, 1, 1, 1] (.t 95) (.t 96)), none, []⟩,
      ⟨some 98, (.bin .neq false [0] (.t 94) (.t 97)), none, []⟩] [0, 5, 98] [4, 7]) 
    (.cond (.t 98) 
      (.seq 
      (.reg [⟨some 6, (.mv (.c (.b false))), none, []⟩] [6] [5]) .ret) .skip))) .skip)) c5_s9)
def c5_s11 : IC := 
  (.seq 
  (.seq 
  (.reg [⟨some 77, (.mv (.t 10)), none, []⟩,
    ⟨some 78, (.bin .neq false [1] (.t 77) (.c (.i .i64 0))), none, []⟩,
    ⟨some 79, (.mv (.t 78)), none, []⟩,
    ⟨some 80, (.mv (.t 9)), some (79, false), []⟩,
    ⟨some 81, (.bin .neq false [1] (.t 80) (.c (.i .i64 0))), some (79, false), []⟩,
    ⟨some 82, (.pick (.t 79) (.c (.b true)) (.t 81)), none, []⟩] [0, 4, 5, 7, 82] []) 
  (.cond (.t 82) 
    (.seq 
    (.reg [⟨some 6, (.mv (.c (.b false))), none, []⟩] [6] [4, 5, 7]) .ret) .skip)) c5_s10)
def c5_s12 : IC := 
  (.seq 
  (.dreg [⟨some 71, (.mv (.t 0)), none, []⟩,
    ⟨some 72, (.call (.f 18) [(.t 71)]), none, []⟩,
    ⟨some 73, (.ld 4 true (.t 7)), none, []⟩,
    ⟨some 74, (.call (.f 28) [(.t 72), (.t 73)]), none, []⟩,
    ⟨some 70, (.mv (.t 74)), none, []⟩,
    ⟨some 75, (.ex (.t 70) 0), none, []⟩,
    ⟨some 76, (.ex (.t 70) 1), none, []⟩,
    ⟨some 9, (.mv (.t 75)), none, []⟩,
    ⟨some 10, (.mv (.t 76)), none, []⟩] [[], [0], [], [0, 1, 2], [0, 1, 2, 3], [0, 1, 2, 3, 4], [0, 1, 2, 3, 4], [0, 1, 2, 3, 4, 5], [0, 1, 2, 3, 4, 5, 6, 7]] [0, 4, 5, 7, 9, 10] []) c5_s11)
def c5_s13 : IC := 
  (.seq 
  (.seq 
  (.reg [⟨some 63, (.mv (.t 8)), none, []⟩,
    ⟨some 64, (.bin .neq false [1] (.t 63) (.c (.i .i64 0))), none, []⟩,
    ⟨some 65, (.mv (.t 64)), none, []⟩,
    ⟨some 66, (.ld 4 true (.t 7)), some (65, false), []⟩,
    ⟨some 67, (.call (.f 16) [(.t 66)]), some (65, false), []⟩,
    ⟨some 68, (.bin .neq false [1] (.t 67) (.c (.i .i64 0))), some (65, false), []⟩,
    ⟨some 69, (.pick (.t 65) (.c (.b true)) (.t 68)), none, []⟩] [0, 4, 5, 7, 69] []) 
  (.cond (.t 69) 
    (.seq 
    (.reg [⟨some 6, (.mv (.c (.b false))), none, []⟩] [6] [4, 5, 7]) .ret) .skip)) c5_s12)
def c5_s14 : IC := 
  (.seq 
  (.reg [⟨some 58, (.mv (.t 0)), none, []⟩,
    ⟨some 59, (.call (.f 18) [(.t 58)]), none, []⟩,
    ⟨some 60, (.call (.f 27) [(.t 59)]), none, []⟩,
    ⟨some 57, (.mv (.t 60)), none, []⟩,
    ⟨some 61, (.ex (.t 57) 0), none, []⟩,
    ⟨some 62, (.ex (.t 57) 1), none, []⟩,
    ⟨some 7, (.al [(.i .i64 0), (.i .i64 0), (.i .i64 0), (.i .i64 0)]), none, []⟩,
    ⟨none, (.st 4 (.t 7) (.t 61)), none, []⟩,
    ⟨some 8, (.mv (.t 62)), none, []⟩] [0, 4, 5, 7, 8] []) c5_s13)
def c5_s15 : IC := 
  (.seq 
  (.seq 
  (.reg [⟨some 25, (.mv (.t 0)), none, []⟩,
    ⟨some 26, (.call (.f 14) [(.t 25)]), none, []⟩,
    ⟨some 27, (.un .not (.t 26)), none, []⟩,
    ⟨some 28, (.mv (.t 27)), none, []⟩,
    ⟨some 29, (.mv (.t 0)), some (28, false), []⟩,
    ⟨some 30, (.call (.f 15) [(.t 29)]), some (28, false), []⟩,
    ⟨some 31, (.bin .neq false [1] (.t 30) (.c (.i .i64 0))), some (28, false), []⟩,
    ⟨some 32, (.pick (.t 28) (.c (.b true)) (.t 31)), none, []⟩,
    ⟨some 33, (.mv (.t 32)), none, []⟩,
    ⟨some 34, (.mv (.t 0)), some (33, false), []⟩,
    ⟨some 35, (.call (.f 25) [(.t 34)]), some (33, false), []⟩,
    ⟨some 36, (.call (.f 24) [(.t 35)]), some (33, false), []⟩,
    ⟨some 37, (.bin .lss false [] (.t 36) (.c (.i .i64 3))), some (33, false), []⟩,
    ⟨some 38, (.pick (.t 33) (.c (.b true)) (.t 37)), none, []⟩,
    ⟨some 39, (.mv (.t 38)), none, []⟩,
    ⟨some 40, (.ixp 3 1 (.t 5) (.c (.i .i64 0))), some (39, false), []⟩,
    ⟨some 41, (.ld 1 false (.t 40)), some (39, false), []⟩,
    ⟨some 42, (.call (.f 26) [(.t 41), (.c (.i .i64 (-300))), (.c (.i .i64 300))]), some (39, false), []⟩,
    ⟨some 43, (.un .not (.t 42)), some (39, false), []⟩,
    ⟨some 44, (.pick (.t 39) (.c (.b true)) (.t 43)), none, []⟩,
    ⟨some 45, (.mv (.t 44)), none, []⟩,
    ⟨some 46, (.ixp 3 1 (.t 5) (.c (.i .i64 1))), some (45, false), []⟩,
    ⟨some 47, (.ld 1 false (.t 46)), some (45, false), []⟩,
    ⟨some 48, (.call (.f 26) [(.t 47), (.c (.i .i64 (-300))), (.c (.i .i64 300))]), some (45, false), []⟩,
    ⟨some 49, (.un .not (.t 48)), some (45, false), []⟩,
    ⟨some 50, (.pick (.t 45) (.c (.b true)) (.t 49)), none, []⟩,
    ⟨some 51, (.mv (.t 50)), none, []⟩,
    ⟨some 52, (.ixp 3 1 (.t 5) (.c (.i .i64 2))), some (51, false), []⟩,
    ⟨some 53, (.ld 1 false (.t 52)), some (51, false), []⟩,
    ⟨some 54, (.call (.f 26) [(.t 53), (.c (.i .i64 (-300))), (.c (.i .i64 300))]), some (51, false), []⟩,
    ⟨some 55, (.un .not (.t 54)), some (51, false), []⟩,
    ⟨some 56, (.pick (.t 51) (.c (.b true)) (.t 55)), none, []⟩] [0, 4, 5, 56] []) 
  (.cond (.t 56) 
    (.seq 
    (.reg [⟨some 6, (.mv (.c (.b true))), none, []⟩] [6] [4, 5]) .ret) .skip)) c5_s14)
def c5_s16 : IC := 
  (.seq 
  (.seq 
  (.reg [⟨some 23, (.call (.f 6) []), none, []⟩,
    ⟨some 24, (.un .not (.t 23)), none, []⟩] [0, 4, 5, 24] []) 
  (.cond (.t 24) 
    (.seq 
    (.reg [⟨some 6, (.mv (.c (.b false))), none, []⟩] [6] [4, 5]) .ret) .skip)) c5_s15)
def c5 : IC := 
  (.seq 
  (.reg [⟨some 4, (.bx (.t 1)), none, []⟩,
    ⟨some 5, (.bx (.t 2)), none, []⟩,
    ⟨some 6, (.mv (.c (.b false))), none, []⟩] [0, 4, 5] []) c5_s16)
def f5 : IF := ⟨c5, 3, [(.t 6)]⟩
def c5_k0 {R : Type} (H : Hk R) (Y : Yt R) (dp : Nat) (K : Ex → Env → Mem → Option R) : Ex → Env → Mem → Option R := (kBlk 0 (kSeq (fun env mem k => evC H Y c5_s6 dp env mem k) K))

/- glidepath/glidepathlaw04.awake -/
def c6_s0 : IC := .ret
def c6_s1 : IC := 
  (.seq 
  (.reg [⟨some 51, (.mv (.t 2)), none, []⟩,
    ⟨some 52, (.bin .eql false [1] (.t 51) (.c (.i .i64 0))), none, []⟩,
    ⟨some 53, (.mv (.t 52)), none, []⟩,
    ⟨some 54, (.ld 2 true (.t 1)), some (53, true), []⟩,
    ⟨some 55, (.bd [(.i .i64 0), (.i .i64 0)] [(0, 1, (.c (.i .i64 3))), (1, 1, (.c (.i .i64 7)))]), some (53, true), []⟩,
    ⟨some 56, (.bin .eql true [1, 1] (.t 54) (.t 55)), some (53, true), []⟩,
    ⟨some 57, (.pick (.t 53) (.t 56) (.c (.b false))), none, []⟩,
    ⟨some 58, (.mv (.t 57)), none, []⟩,
    ⟨some 59, (.mv (.t 4)), some (58, true), []⟩,
    ⟨some 60, (.bin .eql false [1] (.t 59) (.c (.i .i64 0))), some (58, true), []⟩,
    ⟨some 61, (.pick (.t 58) (.t 60) (.c (.b false))), none, []⟩,
    ⟨some 62, (.mv (.t 61)), none, []⟩,
    ⟨some 63, (.ld 4 true (.t 3)), some (62, true), []⟩,
    ⟨some 64, (.bd [(.i .i64 0), (.i .i64 0), (.i .i64 0), (.i .i64 0)] [(0, 1, (.c (.i .i64 5))), (2, 1, (.c (.i .i64 1))), (3, 1, (.c (.i .i64 1)))]), some (62, true), []⟩,
    ⟨some 65, (.bin .eql true [1, 1, 1, 1] (.t 63) (.t 64)), some (62, true), []⟩,
    ⟨some 66, (.pick (.t 62) (.t 65) (.c (.b false))), none, []⟩,
    ⟨some 67, (.mv (.t 66)), none, []⟩,
    ⟨some 68, (.mv (.t 6)), some (67, true), []⟩,
    ⟨some 69, (.bin .eql false [1] (.t 68) (.c (.i .i64 0))), some (67, true), []⟩,
    ⟨some 70, (.pick (.t 67) (.t 69) (.c (.b false))), none, []⟩,
    ⟨some 71, (.mv (.t 70)), none, []⟩,
    ⟨some 72, (.ld 2 true (.t 5)), some (71, true), []⟩,
    ⟨some 73, (.bsl (.int .i64) false [(.c (.i .i64 0)), (.c (.i .i64 2)), (.c (.i .i64 3))]), some (71, true), []⟩,
    ⟨some 74, (.bsl (.int .i64) false [(.c (.i .i64 1)), (.c (.i .i64 1)), (.c (.i .i64 (-1)))]), some (71, true), []⟩,
    ⟨some 75, (.bd [(.sl (.int .i64) [] false true), (.sl (.int .i64) [] false true)] [(0, 1, (.t 73)), (1, 1, (.t 74))]), some (71, true), []⟩,
    ⟨some 76, (.call (.f 36) [(.t 72), (.t 75)]), some (71, true), []⟩,
    ⟨some 77, (.pick (.t 71) (.t 76) (.c (.b false))), none, []⟩,
    ⟨some 78, (.mv (.t 77)), none, []⟩,
    ⟨some 79, (.mv (.t 8)), some (78, true), []⟩,
    ⟨some 80, (.bin .eql false [1] (.t 79) (.c (.i .i64 0))), some (78, true), []⟩,
    ⟨some 81, (.pick (.t 78) (.t 80) (.c (.b false))), none, []⟩,
    ⟨some 82, (.mv (.t 81)), none, []⟩,
    ⟨some 83, (.mv (.t 7)), some (82, true), []⟩,
    ⟨some 84, (.bd [(.i .i64 0), (.i .i64 0), (.i .i64 0)] [(0, 1, (.c (.i .i64 (-1)))), (1, 1, (.c (.i .i64 1))), (2, 1, (.c (.i .i64 0)))]), some (82, true), []⟩,
    ⟨some 85, (.bd [(.i .i64 0), (.i .i64 0), (.i .i64 0)] [(0, 1, (.c (.i .i64 0))), (1, 1, (.c (.i .i64 0))), (2, 1, (.c (.i .i64 1)))]), some (82, true), []⟩,
    ⟨some 86, (.bsl (.prod (.int .i64) (.prod (.int .i64) (.int .i64))) false [(.t 84), (.t 85)]), some (82, true), []⟩,
    ⟨some 87, (.call (.f 37) [(.t 83), (.t 86)]), some (82, true), []⟩,
    ⟨some 88, (.pick (.t 82) (.t 87) (.c (.b false))), none, []⟩,
    ⟨some 89, (.mv (.t 88)), none, []⟩,
    ⟨some 90, (.mv (.t 10)), some (89, true), []⟩,
    ⟨some 91, (.bin .eql false [1] (.t 90) (.c (.i .i64 0))), some (89, true), []⟩,
    ⟨some 92, (.pick (.t 89) (.t 91) (.c (.b false))), none, []⟩,
    ⟨some 93, (.mv (.t 92)), none, []⟩,
    ⟨some 94, (.ld 2 true (.t 9)), some (93, true), []⟩,
    ⟨some 95, (.bd [(.i .i64 0), (.i .i64 0)] [(0, 1, (.c (.i .i64 13))), (1, 1, (.c (.i .i64 2)))]), some (93, true), []⟩,
    ⟨some 96, (.bin .eql true [1, 1] (.t 94) (.t 95)), some (93, true), []⟩,
    ⟨some 97, (.pick (.t 93) (.t 96) (.c (.b false))), none, []⟩,
    ⟨some 0, (.mv (.t 97)), none, []⟩] [0] [1, 3, 5, 9]) c6_s0)
def c6_s2 : IC := 
  (.seq 
  (.reg [⟨some 47, (.bsl (.int .i64) false [(.c (.i .i64 1)), (.c (.i .i64 3)), (.c (.i .i64 0))]), none, []⟩,
    ⟨some 48, (.call (.f 35) [(.t 47), (.c (.i .i64 1))]), none, []⟩,
    ⟨some 46, (.mv (.t 48)), none, []⟩,
    ⟨some 49, (.ex (.t 46) 0), none, []⟩,
    ⟨some 50, (.ex (.t 46) 1), none, []⟩,
    ⟨some 9, (.al [(.i .i64 0), (.i .i64 0)]), none, []⟩,
    ⟨none, (.st 2 (.t 9) (.t 49)), none, []⟩,
    ⟨some 10, (.mv (.t 50)), none, []⟩] [1, 2, 3, 4, 5, 6, 7, 8, 9, 10] []) c6_s1)
def c6_s3 : IC := 
  (.seq 
  (.reg [⟨some 38, (.bd [(.i .i64 0), (.i .i64 0), (.i .i64 0)] [(0, 1, (.c (.i .i64 1))), (1, 1, (.c (.i .i64 1))), (2, 1, (.c (.i .i64 0)))]), none, []⟩,
    ⟨some 39, (.bd [(.i .i64 0), (.i .i64 0), (.i .i64 0), (.i .i64 0), (.i .i64 0)] [(0, 3, (.t 38))]), none, []⟩,
    ⟨some 40, (.bd [(.i .i64 0), (.i .i64 0), (.i .i64 0)] [(0, 1, (.c (.i .i64 2))), (1, 1, (.c (.i .i64 2))), (2, 1, (.c (.i .i64 0)))]), none, []⟩,
    ⟨some 41, (.bd [(.i .i64 0), (.i .i64 0), (.i .i64 0), (.i .i64 0), (.i .i64 0)] [(0, 3, (.t 40))]), none, []⟩,
    ⟨some 42, (.bsl (.prod (.prod (.int .i64) (.prod (.int .i64) (.int .i64))) (.prod (.int .i64) (.int .i64))) false [(.t 39), (.t 41)]), none, []⟩,
    ⟨some 43, (.call (.f 34) [(.t 42)]), none, []⟩,
    ⟨some 37, (.mv (.t 43)), none, []⟩,
    ⟨some 44, (.ex (.t 37) 0), none, []⟩,
    ⟨some 45, (.ex (.t 37) 1), none, []⟩,
    ⟨some 7, (.mv (.t 44)), none, []⟩,
    ⟨some 8, (.mv (.t 45)), none, []⟩] [1, 2, 3, 4, 5, 6, 7, 8] []) c6_s2)
def c6_s4 : IC := 
  (.seq 
  (.reg [⟨some 28, (.call (.f 33) []), none, []⟩,
    ⟨some 29, (.bd [(.i .i64 0), (.i .i64 0), (.i .i64 0)] [(0, 1, (.c (.i .i64 1))), (1, 1, (.c (.i .i64 0))), (2, 1, (.c (.i .i64 1)))]), none, []⟩,
    ⟨some 30, (.bd [(.i .i64 0), (.i .i64 0)] [(0, 1, (.c (.i .i64 8))), (1, 1, (.c (.i .i64 9)))]), none, []⟩,
    ⟨some 31, (.bd [(.i .i64 0), (.i .i64 0), (.i .i64 0), (.i .i64 0), (.i .i64 0)] [(0, 3, (.t 29)), (3, 2, (.t 30))]), none, []⟩,
    ⟨some 32, (.bsl (.prod (.prod (.int .i64) (.prod (.int .i64) (.int .i64))) (.prod (.int .i64) (.int .i64))) false [(.t 31)]), none, []⟩,
    ⟨some 33, (.app (.prod (.prod (.int .i64) (.prod (.int .i64) (.int .i64))) (.prod (.int .i64) (.int .i64))) 879609302220 (.t 28) (.t 32)), none, []⟩,
    ⟨some 34, (.call (.f 17) [(.t 33)]), none, [33]⟩,
    ⟨some 27, (.mv (.t 34)), none, []⟩,
    ⟨some 35, (.ex (.t 27) 0), none, []⟩,
    ⟨some 36, (.ex (.t 27) 1), none, []⟩,
    ⟨some 5, (.al [(.sl (.int .i64) [] false true), (.sl (.int .i64) [] false true)]), none, []⟩,
    ⟨none, (.st 2 (.t 5) (.t 35)), none, []⟩,
    ⟨some 6, (.mv (.t 36)), none, []⟩] [1, 2, 3, 4, 5, 6] []) c6_s3)
def c6_s5 : IC := 
  (.seq 
  (.reg [⟨some 18, (.call (.f 33) []), none, []⟩,
    ⟨some 19, (.bd [(.i .i64 0), (.i .i64 0), (.i .i64 0)] [(0, 1, (.c (.i .i64 1))), (1, 1, (.c (.i .i64 0))), (2, 1, (.c (.i .i64 0)))]), none, []⟩,
    ⟨some 20, (.bd [(.i .i64 0), (.i .i64 0)] [(0, 1, (.c (.i .i64 6))), (1, 1, (.c (.i .i64 6)))]), none, []⟩,
    ⟨some 21, (.bd [(.i .i64 0), (.i .i64 0), (.i .i64 0), (.i .i64 0), (.i .i64 0)] [(0, 3, (.t 19)), (3, 2, (.t 20))]), none, []⟩,
    ⟨some 22, (.bsl (.prod (.prod (.int .i64) (.prod (.int .i64) (.int .i64))) (.prod (.int .i64) (.int .i64))) false [(.t 21)]), none, []⟩,
    ⟨some 23, (.app (.prod (.prod (.int .i64) (.prod (.int .i64) (.int .i64))) (.prod (.int .i64) (.int .i64))) 879609302220 (.t 18) (.t 22)), none, []⟩,
    ⟨some 24, (.call (.f 27) [(.t 23)]), none, [23]⟩,
    ⟨some 17, (.mv (.t 24)), none, []⟩,
    ⟨some 25, (.ex (.t 17) 0), none, []⟩,
    ⟨some 26, (.ex (.t 17) 1), none, []⟩,
    ⟨some 3, (.al [(.i .i64 0), (.i .i64 0), (.i .i64 0), (.i .i64 0)]), none, []⟩,
    ⟨none, (.st 4 (.t 3) (.t 25)), none, []⟩,
    ⟨some 4, (.mv (.t 26)), none, []⟩] [1, 2, 3, 4] []) c6_s4)
def c6_s6 : IC := 
  (.seq 
  (.reg [⟨some 12, (.call (.f 33) []), none, []⟩,
    ⟨some 13, (.bd [(.i .i64 0), (.i .i64 0), (.i .i64 0)] [(0, 1, (.c (.i .i64 1))), (1, 1, (.c (.i .i64 0))), (2, 1, (.c (.i .i64 1)))]), none, []⟩,
    ⟨some 14, (.call (.f 32) [(.t 12), (.t 13)]), none, []⟩,
    ⟨some 11, (.mv (.t 14)), none, []⟩,
    ⟨some 15, (.ex (.t 11) 0), none, []⟩,
    ⟨some 16, (.ex (.t 11) 1), none, []⟩,
    ⟨some 1, (.al [(.i .i64 0), (.i .i64 0)]), none, []⟩,
    ⟨none, (.st 2 (.t 1) (.t 15)), none, []⟩,
    ⟨some 2, (.mv (.t 16)), none, []⟩] [1, 2] []) c6_s5)
def c6 : IC := 
  (.seq 
  (.reg [⟨some 0, (.mv (.c (.b false))), none, []⟩] [] []) c6_s6)
def f6 : IF := ⟨c6, 0, [(.t 0)]⟩

/- glidepath/glidepathref04.ProfileErr -/
def c7_s0 : IC := .ret
def c7_s1 : IC := 
  (.seq 
  (.reg [⟨some 10, (.mv (.t 4)), none, []⟩,
    ⟨some 2, (.mv (.t 10)), none, []⟩] [2] []) c7_s0)
def c7_s2 : IC := 
  (.seq 
  (.reg [⟨some 6, (.mv (.t 0)), none, []⟩,
    ⟨some 7, (.call (.f 38) [(.t 6)]), none, []⟩,
    ⟨some 5, (.mv (.t 7)), none, []⟩,
    ⟨some 8, (.ex (.t 5) 0), none, []⟩,
    ⟨some 9, (.ex (.t 5) 1), none, []⟩,
    ⟨some 3, (.mv (.t 8)), none, []⟩,
    ⟨some 4, (.mv (.t 9)), none, []⟩] [4] []) c7_s1)
def c7 : IC := 
  (.seq 
  (.reg [⟨some 2, (.mv (.c (.i .i64 0))), none, []⟩] [0] []) c7_s2)
def f7 : IF := ⟨c7, 1, [(.t 2)]⟩

/- glidepath/glidepathbase.Mod -/
def c8_s0 : IC := .ret
def c8_s1 : IC := 
  (.seq 
  (.reg [⟨some 13, (.mv (.t 0)), none, []⟩,
    ⟨some 4, (.mv (.t 13)), none, []⟩] [4] []) c8_s0)
def c8_s2 : IC := 
  (.seq 
  (.seq 
  (.reg [⟨some 8, (.mv (.t 0)), none, []⟩,
    ⟨some 9, (.bin .lss false [] (.t 8) (.c (.i .i64 0))), none, []⟩] [0, 1, 9] []) 
  (.cond (.t 9) 
    (.reg [⟨some 10, (.mv (.t 0)), none, []⟩,
      ⟨some 11, (.mv (.t 1)), none, []⟩,
      ⟨some 12, (.bin .add false [] (.t 10) (.t 11)), none, []⟩,
      ⟨some 0, (.mv (.t 12)), none, []⟩] [0] []) .skip)) c8_s1)
def c8_s3 : IC := 
  (.seq 
  (.reg [⟨some 5, (.mv (.t 0)), none, []⟩,
    ⟨some 6, (.mv (.t 1)), none, []⟩,
    ⟨some 7, (.bin .rem false [] (.t 5) (.t 6)), none, []⟩,
    ⟨some 0, (.mv (.t 7)), none, []⟩] [0, 1] []) c8_s2)
def c8 : IC := 
  (.seq 
  (.reg [⟨some 4, (.mv (.c (.i .i64 0))), none, []⟩] [0, 1] []) c8_s3)
def f8 : IF := ⟨c8, 2, [(.t 4)]⟩

/- glidepath/wind.WindAt -/
def c9_s0 : IC := .ret
def c9_s1 : IC := 
  (.seq 
  (.dreg [⟨some 30, (.ld 6 true (.t 8)), none, []⟩,
    ⟨some 31, (.mv (.t 9)), none, []⟩,
    ⟨some 32, (.call (.f 43) [(.t 31), (.c (.i .i64 6))]), none, []⟩,
    ⟨none, (.st 6 (.t 4) (.t 30)), none, []⟩,
    ⟨some 5, (.mv (.t 32)), none, []⟩] [[], [], [1], [0, 1, 2], [0, 1, 2, 3]] [4, 5] [8]) c9_s0)
def c9_s2 : IC := 
  (.seq 
  (.reg [⟨some 25, (.mv (.t 0)), none, []⟩,
    ⟨some 26, (.mv (.t 1)), none, []⟩,
    ⟨some 27, (.call (.f 42) [(.t 25), (.t 26)]), none, []⟩,
    ⟨some 24, (.mv (.t 27)), none, []⟩,
    ⟨some 28, (.ex (.t 24) 0), none, []⟩,
    ⟨some 29, (.ex (.t 24) 1), none, []⟩,
    ⟨some 8, (.al [(.i .i64 0), (.i .i64 0), (.i .i64 0), (.i .i64 0), (.i .i64 0), (.i .i64 0)]), none, []⟩,
    ⟨none, (.st 6 (.t 8) (.t 28)), none, []⟩,
    ⟨some 9, (.mv (.t 29)), none, []⟩] [4, 8, 9] []) c9_s1)
def c9_s3 : IC := 
  (.seq 
  (.seq 
  (.reg [⟨some 15, (.mv (.t 7)), none, []⟩,
    ⟨some 16, (.mv (.t 1)), none, []⟩,
    ⟨some 17, (.call (.f 41) [(.t 16)]), none, []⟩,
    ⟨some 18, (.bsl (.int .i64) false [(.t 15), (.t 17)]), none, []⟩,
    ⟨some 19, (.call (.f 40) [(.t 18)]), none, []⟩,
    ⟨some 7, (.mv (.t 19)), none, []⟩] [0, 1, 4, 7] []) 
  (.seq 
  (.reg [⟨some 20, (.mv (.t 7)), none, []⟩,
    ⟨some 21, (.bin .neq false [1] (.t 20) (.c (.i .i64 0))), none, []⟩] [0, 1, 4, 7, 21] []) 
  (.cond (.t 21) 
    (.seq 
    (.reg [⟨some 22, (.bd [(.i .i64 0), (.i .i64 0), (.i .i64 0), (.i .i64 0), (.i .i64 0), (.i .i64 0)] []), none, []⟩,
      ⟨some 23, (.mv (.t 7)), none, []⟩,
      ⟨none, (.st 6 (.t 4) (.t 22)), none, []⟩,
      ⟨some 5, (.mv (.t 23)), none, []⟩] [4, 5] []) .ret) .skip))) c9_s2)
def c9_s4 : IC := 
  (.seq 
  (.reg [⟨some 11, (.mv (.t 0)), none, []⟩,
    ⟨some 12, (.call (.f 39) [(.t 11)]), none, []⟩,
    ⟨some 10, (.mv (.t 12)), none, []⟩,
    ⟨some 13, (.ex (.t 10) 0), none, []⟩,
    ⟨some 14, (.ex (.t 10) 1), none, []⟩,
    ⟨some 6, (.mv (.t 13)), none, []⟩,
    ⟨some 7, (.mv (.t 14)), none, []⟩] [0, 1, 4, 7] []) c9_s3)
def c9 : IC := 
  (.seq 
  (.reg [⟨some 4, (.al [(.i .i64 0), (.i .i64 0), (.i .i64 0), (.i .i64 0), (.i .i64 0), (.i .i64 0)]), none, []⟩,
    ⟨some 5, (.mv (.c (.i .i64 0))), none, []⟩] [0, 1, 4] []) c9_s4)
def f9 : IF := ⟨c9, 2, [(.c 4 6 true), (.t 5)]⟩

/- glidepath/glidepathref04.CopyLayers -/
def c10_s0 : IC := .ret
def c10_s1 : IC := 
  (.seq 
  (.reg [⟨some 3, (.bsl (.prod (.int .i64) (.prod (.prod (.int .i64) (.int .i64)) (.prod (.prod (.int .i64) (.int .i64)) (.prod (.int .i64) (.int .i64))))) false []), none, []⟩,
    ⟨some 4, (.mv (.t 0)), none, []⟩,
    ⟨some 5, (.app (.prod (.int .i64) (.prod (.prod (.int .i64) (.int .i64)) (.prod (.prod (.int .i64) (.int .i64)) (.prod (.int .i64) (.int .i64))))) 628292358729 (.t 3) (.t 4)), none, []⟩,
    ⟨some 2, (.mv (.t 5)), none, []⟩] [2] []) c10_s0)
def c10 : IC := 
  (.seq 
  (.reg [⟨some 2, (.mv (.c (.sl (.prod (.int .i64) (.prod (.prod (.int .i64) (.int .i64)) (.prod (.prod (.int .i64) (.int .i64)) (.prod (.int .i64) (.int .i64))))) [] false true))), none, []⟩] [0] []) c10_s1)
def f10 : IF := ⟨c10, 1, [(.t 2)]⟩

/- glidepath/glidepathlaw04.liesIn -/
def c11_s0 : IC := .ret
def c11_s1 : IC := 
  (.seq 
  (.reg [⟨some 7, (.fa 0 (.t 4)), none, []⟩,
    ⟨some 8, (.ld 1 false (.t 7)), none, []⟩,
    ⟨some 9, (.fa 0 (.t 5)), none, []⟩,
    ⟨some 10, (.ld 1 false (.t 9)), none, []⟩,
    ⟨some 11, (.mn [(.t 8), (.t 10)]), none, []⟩,
    ⟨some 12, (.fa 0 (.t 3)), none, []⟩,
    ⟨some 13, (.ld 1 false (.t 12)), none, []⟩,
    ⟨some 14, (.bin .leq false [] (.t 11) (.t 13)), none, []⟩,
    ⟨some 15, (.mv (.t 14)), none, []⟩,
    ⟨some 16, (.fa 0 (.t 3)), some (15, true), []⟩,
    ⟨some 17, (.ld 1 false (.t 16)), some (15, true), []⟩,
    ⟨some 18, (.fa 1 (.t 3)), some (15, true), []⟩,
    ⟨some 19, (.ld 1 false (.t 18)), some (15, true), []⟩,
    ⟨some 20, (.bin .leq false [] (.t 17) (.t 19)), some (15, true), []⟩,
    ⟨some 21, (.pick (.t 15) (.t 20) (.c (.b false))), none, []⟩,
    ⟨some 22, (.mv (.t 21)), none, []⟩,
    ⟨some 23, (.fa 1 (.t 3)), some (22, true), []⟩,
    ⟨some 24, (.ld 1 false (.t 23)), some (22, true), []⟩,
    ⟨some 25, (.fa 1 (.t 4)), some (22, true), []⟩,
    ⟨some 26, (.ld 1 false (.t 25)), some (22, true), []⟩,
    ⟨some 27, (.fa 1 (.t 5)), some (22, true), []⟩,
    ⟨some 28, (.ld 1 false (.t 27)), some (22, true), []⟩,
    ⟨some 29, (.mx [(.t 26), (.t 28)]), some (22, true), []⟩,
    ⟨some 30, (.bin .leq false [] (.t 24) (.t 29)), some (22, true), []⟩,
    ⟨some 31, (.pick (.t 22) (.t 30) (.c (.b false))), none, []⟩,
    ⟨some 6, (.mv (.t 31)), none, []⟩] [6] [3, 4, 5]) c11_s0)
def c11 : IC := 
  (.seq 
  (.reg [⟨some 3, (.bx (.t 0)), none, []⟩,
    ⟨some 4, (.bx (.t 1)), none, []⟩,
    ⟨some 5, (.bx (.t 2)), none, []⟩,
    ⟨some 6, (.mv (.c (.b false))), none, []⟩] [3, 4, 5] []) c11_s1)
def f11 : IF := ⟨c11, 3, [(.t 6)]⟩

/- glidepath/wind.ChangeIn -/
def c12_s0 : IC := .ret
def c12_s1 : IC := 
  (.seq 
  (.dreg [⟨some 57, (.fa 0 (.t 10)), none, []⟩,
    ⟨some 58, (.ld 2 true (.t 57)), none, []⟩,
    ⟨some 59, (.fa 0 (.t 8)), none, []⟩,
    ⟨some 60, (.ld 2 true (.t 59)), none, []⟩,
    ⟨some 61, (.call (.f 44) [(.t 58), (.t 60)]), none, []⟩,
    ⟨some 62, (.fa 2 (.t 10)), none, []⟩,
    ⟨some 63, (.ld 2 true (.t 62)), none, []⟩,
    ⟨some 64, (.fa 2 (.t 8)), none, []⟩,
    ⟨some 65, (.ld 2 true (.t 64)), none, []⟩,
    ⟨some 66, (.call (.f 44) [(.t 63), (.t 65)]), none, []⟩,
    ⟨some 67, (.fa 4 (.t 10)), none, []⟩,
    ⟨some 68, (.ld 2 true (.t 67)), none, []⟩,
    ⟨some 69, (.fa 4 (.t 8)), none, []⟩,
    ⟨some 70, (.ld 2 true (.t 69)), none, []⟩,
    ⟨some 71, (.call (.f 44) [(.t 68), (.t 70)]), none, []⟩,
    ⟨some 72, (.bd [(.i .i64 0), (.i .i64 0), (.i .i64 0), (.i .i64 0), (.i .i64 0), (.i .i64 0)] [(0, 2, (.t 61)), (2, 2, (.t 66)), (4, 2, (.t 71))]), none, []⟩,
    ⟨none, (.st 6 (.t 4) (.t 72)), none, []⟩,
    ⟨some 5, (.mv (.c (.i .i64 0))), none, []⟩] [[], [0], [], [2], [0, 1, 2, 3], [], [5], [], [7], [0, 1, 2, 3, 4, 5, 6, 7, 8], [], [10], [], [12], [0, 1, 2, 3, 4, 5, 6, 7, 8, 9, 10, 11, 12, 13], [0, 1, 2, 3, 4, 5, 6, 7, 8, 9, 10, 11, 12, 13, 14], [0, 1, 2, 3, 4, 5, 6, 7, 8, 9, 10, 11, 12, 13, 14, 15], [0, 1, 2, 3, 4, 5, 6, 7, 8, 9, 10, 11, 12, 13, 14, 15, 16]] [4, 5] [8, 10]) c12_s0)
def c12_s2 : IC := 
  (.seq 
  (.seq 
  (.reg [⟨some 50, (.mv (.t 9)), none, []⟩,
    ⟨some 51, (.un .not (.t 50)), none, []⟩,
    ⟨some 52, (.mv (.t 51)), none, []⟩,
    ⟨some 53, (.mv (.t 11)), some (52, false), []⟩,
    ⟨some 54, (.un .not (.t 53)), some (52, false), []⟩,
    ⟨some 55, (.pick (.t 52) (.c (.b true)) (.t 54)), none, []⟩] [4, 8, 10, 55] []) 
  (.cond (.t 55) 
    (.seq 
    (.reg [⟨some 56, (.bd [(.i .i64 0), (.i .i64 0), (.i .i64 0), (.i .i64 0), (.i .i64 0), (.i .i64 0)] []), none, []⟩,
      ⟨none, (.st 6 (.t 4) (.t 56)), none, []⟩,
      ⟨some 5, (.mv (.c (.i .i64 6))), none, []⟩] [4, 5] [8, 10]) .ret) .skip)) c12_s1)
def c12_s3 : IC := 
  (.seq 
  (.reg [⟨some 44, (.mv (.t 0)), none, []⟩,
    ⟨some 45, (.fa 1 (.t 3)), none, []⟩,
    ⟨some 46, (.ld 1 false (.t 45)), none, []⟩,
    ⟨some 47, (.call (.f 42) [(.t 44), (.t 46)]), none, []⟩,
    ⟨some 43, (.mv (.t 47)), none, []⟩,
    ⟨some 48, (.ex (.t 43) 0), none, []⟩,
    ⟨some 49, (.ex (.t 43) 1), none, []⟩,
    ⟨some 10, (.al [(.i .i64 0), (.i .i64 0), (.i .i64 0), (.i .i64 0), (.i .i64 0), (.i .i64 0)]), none, []⟩,
    ⟨none, (.st 6 (.t 10) (.t 48)), none, []⟩,
    ⟨some 11, (.mv (.t 49)), none, []⟩] [4, 8, 9, 10, 11] [3]) c12_s2)
def c12_s4 : IC := 
  (.seq 
  (.reg [⟨some 37, (.mv (.t 0)), none, []⟩,
    ⟨some 38, (.fa 0 (.t 3)), none, []⟩,
    ⟨some 39, (.ld 1 false (.t 38)), none, []⟩,
    ⟨some 40, (.call (.f 42) [(.t 37), (.t 39)]), none, []⟩,
    ⟨some 36, (.mv (.t 40)), none, []⟩,
    ⟨some 41, (.ex (.t 36) 0), none, []⟩,
    ⟨some 42, (.ex (.t 36) 1), none, []⟩,
    ⟨some 8, (.al [(.i .i64 0), (.i .i64 0), (.i .i64 0), (.i .i64 0), (.i .i64 0), (.i .i64 0)]), none, []⟩,
    ⟨none, (.st 6 (.t 8) (.t 41)), none, []⟩,
    ⟨some 9, (.mv (.t 42)), none, []⟩] [0, 3, 4, 8, 9] []) c12_s3)
def c12_s5 : IC := 
  (.seq 
  (.seq 
  (.dreg [⟨some 17, (.mv (.t 7)), none, []⟩,
    ⟨some 18, (.fa 0 (.t 3)), none, []⟩,
    ⟨some 19, (.ld 1 false (.t 18)), none, []⟩,
    ⟨some 20, (.call (.f 41) [(.t 19)]), none, []⟩,
    ⟨some 21, (.fa 1 (.t 3)), none, []⟩,
    ⟨some 22, (.ld 1 false (.t 21)), none, []⟩,
    ⟨some 23, (.call (.f 41) [(.t 22)]), none, []⟩,
    ⟨some 24, (.fa 0 (.t 3)), none, []⟩,
    ⟨some 25, (.ld 1 false (.t 24)), none, []⟩,
    ⟨some 26, (.fa 1 (.t 3)), none, []⟩,
    ⟨some 27, (.ld 1 false (.t 26)), none, []⟩,
    ⟨some 28, (.bin .leq false [] (.t 25) (.t 27)), none, []⟩,
    ⟨some 29, (.call (.f 43) [(.t 28), (.c (.i .i64 9))]), none, []⟩,
    ⟨some 30, (.bsl (.int .i64) false [(.t 17), (.t 20), (.t 23), (.t 29)]), none, []⟩,
    ⟨some 31, (.call (.f 40) [(.t 30)]), none, []⟩,
    ⟨some 7, (.mv (.t 31)), none, []⟩] [[], [], [1], [1, 2], [], [4], [1, 2, 3, 4, 5], [], [7], [], [9], [7, 8, 9, 10], [1, 2, 3, 4, 5, 6, 7, 8, 9, 10, 11], [0, 1, 2, 3, 4, 5, 6, 7, 8, 9, 10, 11, 12], [0, 1, 2, 3, 4, 5, 6, 7, 8, 9, 10, 11, 12, 13], [0, 1, 2, 3, 4, 5, 6, 7, 8, 9, 10, 11, 12, 13, 14]] [0, 3, 4, 7] []) 
  (.seq 
  (.reg [⟨some 32, (.mv (.t 7)), none, []⟩,
    ⟨some 33, (.bin .neq false [1] (.t 32) (.c (.i .i64 0))), none, []⟩] [0, 3, 4, 7, 33] []) 
  (.cond (.t 33) 
    (.seq 
    (.reg [⟨some 34, (.bd [(.i .i64 0), (.i .i64 0), (.i .i64 0), (.i .i64 0), (.i .i64 0), (.i .i64 0)] []), none, []⟩,
      ⟨some 35, (.mv (.t 7)), none, []⟩,
      ⟨none, (.st 6 (.t 4) (.t 34)), none, []⟩,
      ⟨some 5, (.mv (.t 35)), none, []⟩] [4, 5] [3]) .ret) .skip))) c12_s4)
def c12_s6 : IC := 
  (.seq 
  (.reg [⟨some 13, (.mv (.t 0)), none, []⟩,
    ⟨some 14, (.call (.f 39) [(.t 13)]), none, []⟩,
    ⟨some 12, (.mv (.t 14)), none, []⟩,
    ⟨some 15, (.ex (.t 12) 0), none, []⟩,
    ⟨some 16, (.ex (.t 12) 1), none, []⟩,
    ⟨some 6, (.mv (.t 15)), none, []⟩,
    ⟨some 7, (.mv (.t 16)), none, []⟩] [0, 3, 4, 7] []) c12_s5)
def c12 : IC := 
  (.seq 
  (.reg [⟨some 3, (.bx (.t 1)), none, []⟩,
    ⟨some 4, (.al [(.i .i64 0), (.i .i64 0), (.i .i64 0), (.i .i64 0), (.i .i64 0), (.i .i64 0)]), none, []⟩,
    ⟨some 5, (.mv (.c (.i .i64 0))), none, []⟩] [0, 3, 4] []) c12_s6)
def f12 : IF := ⟨c12, 2, [(.c 4 6 true), (.t 5)]⟩

/- glidepath/glidepathlaw04.contains -/
def c13_s0 : IC := .ret
def c13_s1 : IC := 
  (.seq 
  (.reg [⟨some 29, (.fa 0 (.t 3)), none, []⟩,
    ⟨some 30, (.ld 1 false (.t 29)), none, []⟩,
    ⟨some 31, (.fa 0 (.t 4)), none, []⟩,
    ⟨some 32, (.ld 1 false (.t 31)), none, []⟩,
    ⟨some 33, (.bin .add false [] (.t 30) (.t 32)), none, []⟩,
    ⟨some 34, (.fa 0 (.t 5)), none, []⟩,
    ⟨some 35, (.ld 1 false (.t 34)), none, []⟩,
    ⟨some 36, (.bin .leq false [] (.t 33) (.t 35)), none, []⟩,
    ⟨some 37, (.mv (.t 36)), none, []⟩,
    ⟨some 38, (.fa 1 (.t 5)), some (37, true), []⟩,
    ⟨some 39, (.ld 1 false (.t 38)), some (37, true), []⟩,
    ⟨some 40, (.fa 1 (.t 3)), some (37, true), []⟩,
    ⟨some 41, (.ld 1 false (.t 40)), some (37, true), []⟩,
    ⟨some 42, (.fa 1 (.t 4)), some (37, true), []⟩,
    ⟨some 43, (.ld 1 false (.t 42)), some (37, true), []⟩,
    ⟨some 44, (.bin .add false [] (.t 41) (.t 43)), some (37, true), []⟩,
    ⟨some 45, (.bin .leq false [] (.t 39) (.t 44)), some (37, true), []⟩,
    ⟨some 46, (.pick (.t 37) (.t 45) (.c (.b false))), none, []⟩,
    ⟨some 6, (.mv (.t 46)), none, []⟩] [6] [3, 4, 5]) c13_s0)
def c13_s2 : IC := 
  (.seq 
  (.seq 
  (.reg [⟨some 7, (.fa 0 (.t 3)), none, []⟩,
    ⟨some 8, (.ld 1 false (.t 7)), none, []⟩,
    ⟨some 9, (.call (.f 26) [(.t 8), (.c (.i .i64 (-1000000))), (.c (.i .i64 1000000))]), none, []⟩,
    ⟨some 10, (.un .not (.t 9)), none, []⟩,
    ⟨some 11, (.mv (.t 10)), none, []⟩,
    ⟨some 12, (.fa 1 (.t 3)), some (11, false), []⟩,
    ⟨some 13, (.ld 1 false (.t 12)), some (11, false), []⟩,
    ⟨some 14, (.call (.f 26) [(.t 13), (.c (.i .i64 (-1000000))), (.c (.i .i64 1000000))]), some (11, false), []⟩,
    ⟨some 15, (.un .not (.t 14)), some (11, false), []⟩,
    ⟨some 16, (.pick (.t 11) (.c (.b true)) (.t 15)), none, []⟩,
    ⟨some 17, (.mv (.t 16)), none, []⟩,
    ⟨some 18, (.fa 0 (.t 4)), some (17, false), []⟩,
    ⟨some 19, (.ld 1 false (.t 18)), some (17, false), []⟩,
    ⟨some 20, (.call (.f 26) [(.t 19), (.c (.i .i64 (-1000000))), (.c (.i .i64 1000000))]), some (17, false), []⟩,
    ⟨some 21, (.un .not (.t 20)), some (17, false), []⟩,
    ⟨some 22, (.pick (.t 17) (.c (.b true)) (.t 21)), none, []⟩,
    ⟨some 23, (.mv (.t 22)), none, []⟩,
    ⟨some 24, (.fa 1 (.t 4)), some (23, false), []⟩,
    ⟨some 25, (.ld 1 false (.t 24)), some (23, false), []⟩,
    ⟨some 26, (.call (.f 26) [(.t 25), (.c (.i .i64 (-1000000))), (.c (.i .i64 1000000))]), some (23, false), []⟩,
    ⟨some 27, (.un .not (.t 26)), some (23, false), []⟩,
    ⟨some 28, (.pick (.t 23) (.c (.b true)) (.t 27)), none, []⟩] [3, 4, 5, 28] []) 
  (.cond (.t 28) 
    (.seq 
    (.reg [⟨some 6, (.mv (.c (.b false))), none, []⟩] [6] [3, 4, 5]) .ret) .skip)) c13_s1)
def c13 : IC := 
  (.seq 
  (.reg [⟨some 3, (.bx (.t 0)), none, []⟩,
    ⟨some 4, (.bx (.t 1)), none, []⟩,
    ⟨some 5, (.bx (.t 2)), none, []⟩,
    ⟨some 6, (.mv (.c (.b false))), none, []⟩] [3, 4, 5] []) c13_s2)
def f13 : IF := ⟨c13, 3, [(.t 6)]⟩

/- glidepath/glidepathlaw04.few -/
def c14_s0 : IC := .ret
def c14_s1 : IC := 
  (.seq 
  (.reg [⟨some 3, (.mv (.t 0)), none, []⟩,
    ⟨some 4, (.len false (.t 3)), none, []⟩,
    ⟨some 5, (.bin .leq false [] (.t 4) (.c (.i .i64 8))), none, []⟩,
    ⟨some 2, (.mv (.t 5)), none, []⟩] [2] []) c14_s0)
def c14 : IC := 
  (.seq 
  (.reg [⟨some 2, (.mv (.c (.b false))), none, []⟩] [0] []) c14_s1)
def f14 : IF := ⟨c14, 1, [(.t 2)]⟩

/- glidepath/glidepathref04.ReadingsErr -/
def c15_s0 : IC := .ret
def c15_s1 : IC := 
  (.seq 
  (.reg [⟨some 10, (.mv (.t 4)), none, []⟩,
    ⟨some 2, (.mv (.t 10)), none, []⟩] [2] []) c15_s0)
def c15_s2 : IC := 
  (.seq 
  (.reg [⟨some 6, (.mv (.t 0)), none, []⟩,
    ⟨some 7, (.call (.f 45) [(.t 6)]), none, []⟩,
    ⟨some 5, (.mv (.t 7)), none, []⟩,
    ⟨some 8, (.ex (.t 5) 0), none, []⟩,
    ⟨some 9, (.ex (.t 5) 1), none, []⟩,
    ⟨some 3, (.mv (.t 8)), none, []⟩,
    ⟨some 4, (.mv (.t 9)), none, []⟩] [4] []) c15_s1)
def c15 : IC := 
  (.seq 
  (.reg [⟨some 2, (.mv (.c (.i .i64 0))), none, []⟩] [0] []) c15_s2)
def f15 : IF := ⟨c15, 1, [(.t 2)]⟩

/- glidepath/glidepathref04.VectorErr -/
def c16_s0 : IC := .ret
def c16_s1 : IC := 
  (.seq 
  (.reg [⟨some 2, (.mv (.c (.i .i64 0))), none, []⟩] [2] []) c16_s0)
def c16_s2 : IC := 
  (.seq 
  (.seq 
  (.dreg [⟨some 25, (.fa 3 (.t 1)), none, []⟩,
    ⟨some 26, (.ld 1 false (.t 25)), none, []⟩,
    ⟨some 27, (.fa 0 (.t 1)), none, []⟩,
    ⟨some 28, (.ld 1 false (.t 27)), none, []⟩,
    ⟨some 29, (.fa 1 (.t 1)), none, []⟩,
    ⟨some 30, (.ld 1 false (.t 29)), none, []⟩,
    ⟨some 31, (.fa 2 (.t 1)), none, []⟩,
    ⟨some 32, (.ld 1 false (.t 31)), none, []⟩,
    ⟨some 33, (.call (.f 46) [(.t 30), (.t 32)]), none, []⟩,
    ⟨some 34, (.call (.f 46) [(.t 28), (.t 33)]), none, []⟩,
    ⟨some 35, (.call (.f 46) [(.t 26), (.t 34)]), none, []⟩,
    ⟨some 36, (.bin .neq false [1] (.t 35) (.c (.i .i64 1))), none, []⟩] [[], [0], [], [2], [], [4], [], [6], [4, 5, 6, 7], [2, 3, 4, 5, 6, 7, 8], [0, 1, 2, 3, 4, 5, 6, 7, 8, 9], [0, 1, 2, 3, 4, 5, 6, 7, 8, 9, 10]] [36] [1]) 
  (.cond (.t 36) 
    (.seq 
    (.reg [⟨some 2, (.mv (.c (.i .i64 3))), none, []⟩] [2] []) .ret) .skip)) c16_s1)
def c16_s3 : IC := 
  (.seq 
  (.seq 
  (.reg [⟨some 3, (.fa 3 (.t 1)), none, []⟩,
    ⟨some 4, (.ld 1 false (.t 3)), none, []⟩,
    ⟨some 5, (.call (.f 26) [(.t 4), (.c (.i .i64 1)), (.c (.i .i64 1000000000))]), none, []⟩,
    ⟨some 6, (.un .not (.t 5)), none, []⟩,
    ⟨some 7, (.mv (.t 6)), none, []⟩,
    ⟨some 8, (.fa 0 (.t 1)), some (7, false), []⟩,
    ⟨some 9, (.ld 1 false (.t 8)), some (7, false), []⟩,
    ⟨some 10, (.call (.f 26) [(.t 9), (.c (.i .i64 (-1000000000000))), (.c (.i .i64 1000000000000))]), some (7, false), []⟩,
    ⟨some 11, (.un .not (.t 10)), some (7, false), []⟩,
    ⟨some 12, (.pick (.t 7) (.c (.b true)) (.t 11)), none, []⟩,
    ⟨some 13, (.mv (.t 12)), none, []⟩,
    ⟨some 14, (.fa 1 (.t 1)), some (13, false), []⟩,
    ⟨some 15, (.ld 1 false (.t 14)), some (13, false), []⟩,
    ⟨some 16, (.call (.f 26) [(.t 15), (.c (.i .i64 (-1000000000000))), (.c (.i .i64 1000000000000))]), some (13, false), []⟩,
    ⟨some 17, (.un .not (.t 16)), some (13, false), []⟩,
    ⟨some 18, (.pick (.t 13) (.c (.b true)) (.t 17)), none, []⟩,
    ⟨some 19, (.mv (.t 18)), none, []⟩,
    ⟨some 20, (.fa 2 (.t 1)), some (19, false), []⟩,
    ⟨some 21, (.ld 1 false (.t 20)), some (19, false), []⟩,
    ⟨some 22, (.call (.f 26) [(.t 21), (.c (.i .i64 (-1000000000000))), (.c (.i .i64 1000000000000))]), some (19, false), []⟩,
    ⟨some 23, (.un .not (.t 22)), some (19, false), []⟩,
    ⟨some 24, (.pick (.t 19) (.c (.b true)) (.t 23)), none, []⟩] [1, 24] []) 
  (.cond (.t 24) 
    (.seq 
    (.reg [⟨some 2, (.mv (.c (.i .i64 2))), none, []⟩] [2] [1]) .ret) .skip)) c16_s2)
def c16 : IC := 
  (.seq 
  (.reg [⟨some 1, (.bx (.t 0)), none, []⟩,
    ⟨some 2, (.mv (.c (.i .i64 0))), none, []⟩] [1] []) c16_s3)
def f16 : IF := ⟨c16, 1, [(.t 2)]⟩

/- glidepath/wind.ContradictionOf -/
def c17_s0 : IC := .ret
def c17_s1 : IC := 
  (.seq 
  (.reg [⟨some 64, (.bd [(.sl (.int .i64) [] false true), (.sl (.int .i64) [] false true)] []), none, []⟩,
    ⟨none, (.st 2 (.t 2) (.t 64)), none, []⟩,
    ⟨none, (.st 1 (.t 3) (.c (.i .i64 12))), none, []⟩] [2, 3] [1]) c17_s0)
def c17_s2 : IC := 
  (.reg [⟨some 25, (.mv (.t 6)), none, []⟩,
    ⟨some 26, (.bin .add false [] (.t 25) (.c (.i .i64 1))), none, []⟩,
    ⟨some 6, (.mv (.t 26)), none, []⟩] [1, 2, 3, 6] [13])
def c17_s3 : IC := 
          (.seq 
          (.reg [⟨some 48, (.mv (.t 8)), none, []⟩,
            ⟨some 49, (.call (.f 49) [(.t 48)]), none, []⟩,
            ⟨some 47, (.mv (.t 49)), none, []⟩,
            ⟨some 50, (.ex (.t 47) 0), none, []⟩,
            ⟨some 51, (.ex (.t 47) 1), none, []⟩,
            ⟨some 11, (.mv (.t 50)), none, []⟩,
            ⟨some 12, (.mv (.t 51)), none, []⟩] [1, 2, 3, 7, 11, 12] [45]) 
          (.seq 
          (.reg [⟨some 52, (.mv (.t 7)), none, []⟩,
            ⟨some 53, (.call (.f 50) [(.t 52)]), none, []⟩,
            ⟨some 54, (.mv (.t 11)), none, []⟩,
            ⟨some 55, (.bd [(.sl (.int .i64) [] false true), (.sl (.int .i64) [] false true)] [(0, 1, (.t 53)), (1, 1, (.t 54))]), none, []⟩,
            ⟨some 13, (.al [(.sl (.int .i64) [] false true), (.sl (.int .i64) [] false true)]), none, []⟩,
            ⟨none, (.st 2 (.t 13) (.t 55)), none, []⟩] [1, 2, 3, 12, 13] []) 
          (.seq 
          (.reg [⟨some 56, (.mv (.t 12)), none, []⟩,
            ⟨some 57, (.mv (.t 56)), none, []⟩,
            ⟨some 58, (.ld 1 false (.t 1)), some (57, true), []⟩,
            ⟨some 59, (.ld 2 true (.t 13)), some (57, true), []⟩,
            ⟨some 60, (.call (.f 52) [(.t 58), (.t 59)]), some (57, true), []⟩,
            ⟨some 61, (.call (.f 51) [(.t 60)]), some (57, true), []⟩,
            ⟨some 62, (.pick (.t 57) (.t 61) (.c (.b false))), none, []⟩] [2, 3, 13, 62] []) 
          (.cond (.t 62) 
            (.seq 
            (.reg [⟨some 63, (.ld 2 true (.t 13)), none, []⟩,
              ⟨none, (.st 2 (.t 2) (.t 63)), none, []⟩,
              ⟨none, (.st 1 (.t 3) (.c (.i .i64 0))), none, []⟩] [] [13]) .ret) .skip))))
def c17_b1 : IC := 
  (.seq 
  (.reg [⟨some 35, (.bin .lss false [] (.t 34) (.t 33)), none, []⟩] [1, 2, 3, 7, 8, 32, 33, 34, 35] []) 
  (.seq 
  (.cond (.t 35) .skip (.exit 4)) 
  (.seq 
  (.block 5 
    (.seq 
    (.reg [⟨some 36, (.ixs 1 (.t 32) (.t 34)), none, []⟩,
      ⟨some 37, (.ld 1 false (.t 36)), none, []⟩,
      ⟨some 10, (.mv (.t 37)), none, []⟩] [1, 2, 3, 7, 8, 10, 32, 33, 34] []) 
    (.reg [⟨some 38, (.mv (.t 8)), none, []⟩,
      ⟨some 39, (.ld 1 false (.t 1)), none, []⟩,
      ⟨some 40, (.mv (.t 10)), none, []⟩,
      ⟨some 41, (.ixs 5 (.t 39) (.t 40)), none, []⟩,
      ⟨some 42, (.fa 0 (.t 41)), none, []⟩,
      ⟨some 43, (.ld 3 true (.t 42)), none, []⟩,
      ⟨some 44, (.bsl (.prod (.int .i64) (.prod (.int .i64) (.int .i64))) false [(.t 43)]), none, []⟩,
      ⟨some 45, (.app (.prod (.int .i64) (.prod (.int .i64) (.int .i64))) 1466015503701 (.t 38) (.t 44)), none, []⟩,
      ⟨some 8, (.mv (.t 45)), none, []⟩] [1, 2, 3, 7, 8, 32, 33, 34] []))) 
  (.reg [⟨some 46, (.bin .add false [] (.t 34) (.c (.i .i64 1))), none, []⟩,
    ⟨some 34, (.mv (.t 46)), none, []⟩] [1, 2, 3, 7, 8, 32, 33, 34] []))))
def c17_b0 : IC := 
  (.seq 
  (.seq 
  (.reg [⟨some 23, (.mv (.t 6)), none, []⟩,
    ⟨some 24, (.bin .leq false [] (.t 23) (.c (.i .i64 4))), none, []⟩] [1, 2, 3, 6, 24] []) 
  (.cond (.t 24) .skip (.exit 0))) 
  (.seq 
  (.block 1 
    (.seq 
    (.reg [⟨some 27, (.mv (.t 6)), none, []⟩,
      ⟨some 28, (.ld 1 false (.t 1)), none, []⟩,
      ⟨some 29, (.len false (.t 28)), none, []⟩,
      ⟨some 30, (.call (.f 48) [(.t 27), (.t 29)]), none, []⟩] [1, 2, 3, 6, 30] []) 
    (.block 2 
      (.rf (.t 30) [31] 
        (.reg [⟨some 7, (.mv (.t 31)), none, []⟩] [1, 2, 3, 7] [13]) 
        (.block 3 
          (.seq 
          (.reg [⟨some 8, (.mv (.c (.sl (.prod (.int .i64) (.prod (.int .i64) (.int .i64))) [] false true))), none, []⟩] [1, 2, 3, 7, 8] []) 
          (.seq 
          (.seq 
          (.reg [⟨some 32, (.mv (.t 7)), none, []⟩,
            ⟨some 33, (.len false (.t 32)), none, []⟩,
            ⟨some 34, (.mv (.c (.i .i64 0))), none, []⟩] [1, 2, 3, 7, 8, 32, 33, 34] []) 
          (.block 4 (.loop c17_b1))) c17_s3))))))) c17_s2))
def c17_s4 : IC := 
  (.seq 
  (.seq 
  (.reg [⟨some 6, (.mv (.c (.i .i64 2))), none, []⟩] [1, 2, 3, 6] []) 
  (.block 0 (.loop c17_b0))) c17_s1)
def c17_s5 : IC := 
  (.seq 
  (.seq 
  (.reg [⟨some 15, (.ld 1 false (.t 1)), none, []⟩,
    ⟨some 16, (.call (.f 47) [(.t 15)]), none, []⟩,
    ⟨some 14, (.mv (.t 16)), none, []⟩,
    ⟨some 17, (.ex (.t 14) 0), none, []⟩,
    ⟨some 18, (.ex (.t 14) 1), none, []⟩,
    ⟨some 4, (.mv (.t 17)), none, []⟩,
    ⟨some 5, (.mv (.t 18)), none, []⟩] [1, 2, 3, 5] []) 
  (.seq 
  (.reg [⟨some 19, (.mv (.t 5)), none, []⟩,
    ⟨some 20, (.bin .neq false [1] (.t 19) (.c (.i .i64 0))), none, []⟩] [1, 2, 3, 5, 20] []) 
  (.cond (.t 20) 
    (.seq 
    (.reg [⟨some 21, (.bd [(.sl (.int .i64) [] false true), (.sl (.int .i64) [] false true)] []), none, []⟩,
      ⟨some 22, (.mv (.t 5)), none, []⟩,
      ⟨none, (.st 2 (.t 2) (.t 21)), none, []⟩,
      ⟨none, (.st 1 (.t 3) (.t 22)), none, []⟩] [2, 3] [1]) .ret) .skip))) c17_s4)
def c17 : IC := 
  (.seq 
  (.reg [⟨some 1, (.bx (.t 0)), none, []⟩,
    ⟨some 2, (.al [(.sl (.int .i64) [] false true), (.sl (.int .i64) [] false true)]), none, []⟩,
    ⟨some 3, (.al [(.i .i64 0)]), none, []⟩] [1, 2, 3] []) c17_s5)
def f17 : IF := ⟨c17, 1, [(.c 2 2 true), (.c 3 1 false)]⟩
def c17_k1 {R : Type} (H : Hk R) (Y : Yt R) (dp : Nat) (K : Ex → Env → Mem → Option R) : Ex → Env → Mem → Option R := (kBlk 4 (kSeq (fun env mem k => evC H Y c17_s3 dp env mem k) (kBlk 3 K)))
def c17_k0 {R : Type} (H : Hk R) (Y : Yt R) (dp : Nat) (K : Ex → Env → Mem → Option R) : Ex → Env → Mem → Option R := (kBlk 0 (kSeq (fun env mem k => evC H Y c17_s1 dp env mem k) K))

/- glidepath/glidepathref04.CopyReadings -/
def c18_s0 : IC := .ret
def c18_s1 : IC := 
  (.seq 
  (.reg [⟨some 3, (.bsl (.prod (.prod (.int .i64) (.prod (.int .i64) (.int .i64))) (.prod (.int .i64) (.int .i64))) false []), none, []⟩,
    ⟨some 4, (.mv (.t 0)), none, []⟩,
    ⟨some 5, (.app (.prod (.prod (.int .i64) (.prod (.int .i64) (.int .i64))) (.prod (.int .i64) (.int .i64))) 879609302220 (.t 3) (.t 4)), none, []⟩,
    ⟨some 2, (.mv (.t 5)), none, []⟩] [2] []) c18_s0)
def c18 : IC := 
  (.seq 
  (.reg [⟨some 2, (.mv (.c (.sl (.prod (.prod (.int .i64) (.prod (.int .i64) (.int .i64))) (.prod (.int .i64) (.int .i64))) [] false true))), none, []⟩] [0] []) c18_s1)
def f18 : IF := ⟨c18, 1, [(.t 2)]⟩

/- glidepath/wind.VerticesOf -/
def c19_s0 : IC := .ret
def c19_s1 : IC := 
  (.seq 
  (.reg [⟨some 20, (.mv (.t 6)), none, []⟩,
    ⟨some 2, (.mv (.t 20)), none, []⟩,
    ⟨some 3, (.mv (.c (.i .i64 0))), none, []⟩] [2, 3] []) c19_s0)
def c19_s2 : IC := 
  (.seq 
  (.seq 
  (.reg [⟨some 17, (.mv (.t 6)), none, []⟩,
    ⟨some 18, (.len false (.t 17)), none, []⟩,
    ⟨some 19, (.bin .eql false [1] (.t 18) (.c (.i .i64 0))), none, []⟩] [6, 19] []) 
  (.cond (.t 19) 
    (.seq 
    (.reg [⟨some 2, (.mv (.c (.sl (.prod (.int .i64) (.prod (.int .i64) (.prod (.int .i64) (.int .i64)))) [] false true))), none, []⟩,
      ⟨some 3, (.mv (.c (.i .i64 12))), none, []⟩] [2, 3] []) .ret) .skip)) c19_s1)
def c19_s3 : IC := 
  (.seq 
  (.reg [⟨some 15, (.mv (.t 4)), none, []⟩,
    ⟨some 16, (.call (.f 54) [(.t 15)]), none, []⟩,
    ⟨some 6, (.mv (.t 16)), none, []⟩] [6] []) c19_s2)
def c19_s4 : IC := 
  (.seq 
  (.seq 
  (.reg [⟨some 12, (.mv (.t 5)), none, []⟩,
    ⟨some 13, (.bin .neq false [1] (.t 12) (.c (.i .i64 0))), none, []⟩] [4, 5, 13] []) 
  (.cond (.t 13) 
    (.seq 
    (.reg [⟨some 14, (.mv (.t 5)), none, []⟩,
      ⟨some 2, (.mv (.c (.sl (.prod (.int .i64) (.prod (.int .i64) (.prod (.int .i64) (.int .i64)))) [] false true))), none, []⟩,
      ⟨some 3, (.mv (.t 14)), none, []⟩] [2, 3] []) .ret) .skip)) c19_s3)
def c19_s5 : IC := 
  (.seq 
  (.reg [⟨some 8, (.mv (.t 0)), none, []⟩,
    ⟨some 9, (.call (.f 53) [(.t 8)]), none, []⟩,
    ⟨some 7, (.mv (.t 9)), none, []⟩,
    ⟨some 10, (.ex (.t 7) 0), none, []⟩,
    ⟨some 11, (.ex (.t 7) 1), none, []⟩,
    ⟨some 4, (.mv (.t 10)), none, []⟩,
    ⟨some 5, (.mv (.t 11)), none, []⟩] [4, 5] []) c19_s4)
def c19 : IC := 
  (.seq 
  (.reg [⟨some 2, (.mv (.c (.sl (.prod (.int .i64) (.prod (.int .i64) (.prod (.int .i64) (.int .i64)))) [] false true))), none, []⟩,
    ⟨some 3, (.mv (.c (.i .i64 0))), none, []⟩] [0] []) c19_s5)
def f19 : IF := ⟨c19, 1, [(.t 2), (.t 3)]⟩

/- glidepath/wind.HasWind -/
def c20_s0 : IC := .ret
def c20_s1 : IC := 
  (.seq 
  (.reg [⟨some 21, (.mv (.t 6)), none, []⟩,
    ⟨some 22, (.ld 4 true (.t 3)), none, []⟩,
    ⟨some 23, (.call (.f 57) [(.t 21), (.t 22)]), none, []⟩,
    ⟨some 4, (.mv (.t 23)), none, []⟩,
    ⟨some 5, (.mv (.c (.i .i64 0))), none, []⟩] [4, 5] [3]) c20_s0)
def c20_s2 : IC := 
  (.seq 
  (.seq 
  (.reg [⟨some 13, (.mv (.t 7)), none, []⟩,
    ⟨some 14, (.ld 4 true (.t 3)), none, []⟩,
    ⟨some 15, (.call (.f 56) [(.t 14)]), none, []⟩,
    ⟨some 16, (.bsl (.int .i64) false [(.t 13), (.t 15)]), none, []⟩,
    ⟨some 17, (.call (.f 40) [(.t 16)]), none, []⟩,
    ⟨some 7, (.mv (.t 17)), none, []⟩] [3, 6, 7] []) 
  (.seq 
  (.reg [⟨some 18, (.mv (.t 7)), none, []⟩,
    ⟨some 19, (.bin .neq false [1] (.t 18) (.c (.i .i64 0))), none, []⟩] [3, 6, 7, 19] []) 
  (.cond (.t 19) 
    (.seq 
    (.reg [⟨some 20, (.mv (.t 7)), none, []⟩,
      ⟨some 4, (.mv (.c (.b false))), none, []⟩,
      ⟨some 5, (.mv (.t 20)), none, []⟩] [4, 5] [3]) .ret) .skip))) c20_s1)
def c20_s3 : IC := 
  (.seq 
  (.reg [⟨some 9, (.mv (.t 0)), none, []⟩,
    ⟨some 10, (.call (.f 55) [(.t 9)]), none, []⟩,
    ⟨some 8, (.mv (.t 10)), none, []⟩,
    ⟨some 11, (.ex (.t 8) 0), none, []⟩,
    ⟨some 12, (.ex (.t 8) 1), none, []⟩,
    ⟨some 6, (.mv (.t 11)), none, []⟩,
    ⟨some 7, (.mv (.t 12)), none, []⟩] [3, 6, 7] []) c20_s2)
def c20 : IC := 
  (.seq 
  (.reg [⟨some 3, (.bx (.t 1)), none, []⟩,
    ⟨some 4, (.mv (.c (.b false))), none, []⟩,
    ⟨some 5, (.mv (.c (.i .i64 0))), none, []⟩] [0, 3] []) c20_s3)
def f20 : IF := ⟨c20, 2, [(.t 4), (.t 5)]⟩

/- glidepath/wind.CheckContradiction -/
def c21_s0 : IC := .ret
def c21_s1 : IC := 
  (.seq 
  (.reg [⟨some 142, (.ld 2 true (.t 17)), none, []⟩,
    ⟨none, (.st 2 (.t 4) (.t 142)), none, []⟩,
    ⟨some 5, (.mv (.c (.i .i64 0))), none, []⟩] [4, 5] [17]) c21_s0)
def c21_s2 : IC := 
  (.seq 
  (.seq 
  (.dreg [⟨some 129, (.ld 3 true (.t 12)), none, []⟩,
    ⟨some 130, (.bd [(.i .i64 0), (.i .i64 0), (.i .i64 0)] []), none, []⟩,
    ⟨some 131, (.bin .eql true [1, 1, 1] (.t 129) (.t 130)), none, []⟩,
    ⟨some 132, (.call (.f 43) [(.t 131), (.c (.i .i64 3))]), none, []⟩,
    ⟨some 133, (.ld 2 true (.t 17)), none, []⟩,
    ⟨some 134, (.call (.f 51) [(.t 133)]), none, []⟩,
    ⟨some 135, (.call (.f 43) [(.t 134), (.c (.i .i64 17))]), none, []⟩,
    ⟨some 136, (.bsl (.int .i64) false [(.t 132), (.t 135)]), none, []⟩,
    ⟨some 137, (.call (.f 40) [(.t 136)]), none, []⟩,
    ⟨some 18, (.mv (.t 137)), none, []⟩] [[], [], [0, 1], [0, 1, 2], [], [0, 1, 2, 3, 4], [0, 1, 2, 3, 4, 5], [0, 1, 2, 3, 4, 5, 6], [0, 1, 2, 3, 4, 5, 6, 7], [0, 1, 2, 3, 4, 5, 6, 7, 8]] [4, 17, 18] [12]) 
  (.seq 
  (.reg [⟨some 138, (.mv (.t 18)), none, []⟩,
    ⟨some 139, (.bin .neq false [1] (.t 138) (.c (.i .i64 0))), none, []⟩] [4, 17, 18, 139] []) 
  (.cond (.t 139) 
    (.seq 
    (.reg [⟨some 140, (.bd [(.i .i64 0), (.i .i64 0)] []), none, []⟩,
      ⟨some 141, (.mv (.t 18)), none, []⟩,
      ⟨none, (.st 2 (.t 4) (.t 140)), none, []⟩,
      ⟨some 5, (.mv (.t 141)), none, []⟩] [4, 5] [17]) .ret) .skip))) c21_s1)
def c21_s3 : IC := 
  (.seq 
  (.reg [⟨some 126, (.mv (.t 0)), none, []⟩,
    ⟨some 127, (.ld 2 true (.t 3)), none, []⟩,
    ⟨some 128, (.call (.f 52) [(.t 126), (.t 127)]), none, []⟩,
    ⟨some 17, (.al [(.i .i64 0), (.i .i64 0)]), none, []⟩,
    ⟨none, (.st 2 (.t 17) (.t 128)), none, []⟩] [4, 12, 17] [3]) c21_s2)
def c21_s4 : IC := 
  (.reg [⟨some 125, (.bin .add false [] (.t 98) (.c (.i .i64 1))), none, []⟩,
    ⟨some 98, (.mv (.t 125)), none, []⟩] [0, 3, 4, 12, 96, 97, 98] [])
def c21_b1 : IC := 
  (.seq 
  (.reg [⟨some 109, (.bin .lss false [] (.t 108) (.c (.i .i64 3))), none, []⟩] [0, 3, 4, 12, 13, 96, 97, 98, 107, 108, 109] []) 
  (.seq 
  (.cond (.t 109) .skip (.exit 6)) 
  (.seq 
  (.block 7 
    (.seq 
    (.reg [⟨some 110, (.mv (.t 108)), none, []⟩,
      ⟨some 111, (.ixv 3 1 false (.t 107) (.t 108)), none, []⟩,
      ⟨some 15, (.mv (.t 110)), none, []⟩,
      ⟨some 16, (.mv (.t 111)), none, []⟩] [0, 3, 4, 12, 13, 15, 16, 96, 97, 98, 107, 108] []) 
    (.dreg [⟨some 112, (.mv (.t 15)), none, []⟩,
      ⟨some 113, (.ixp 3 1 (.t 12) (.t 112)), none, []⟩,
      ⟨some 114, (.ld 1 false (.t 113)), none, []⟩,
      ⟨some 115, (.fa 1 (.t 3)), none, []⟩,
      ⟨some 116, (.ld 1 false (.t 115)), none, []⟩,
      ⟨some 117, (.mv (.t 13)), none, []⟩,
      ⟨some 118, (.ixs 1 (.t 116) (.t 117)), none, []⟩,
      ⟨some 119, (.ld 1 false (.t 118)), none, []⟩,
      ⟨some 120, (.mv (.t 16)), none, []⟩,
      ⟨some 121, (.bin .mul false [] (.t 119) (.t 120)), none, []⟩,
      ⟨some 122, (.bin .add false [] (.t 114) (.t 121)), none, []⟩,
      ⟨some 123, (.ixp 3 1 (.t 12) (.t 112)), none, []⟩,
      ⟨none, (.st 1 (.t 123) (.t 122)), none, []⟩] [[], [0], [0, 1], [], [3], [], [3, 4, 5], [3, 4, 5, 6], [], [3, 4, 5, 6, 7, 8], [0, 1, 2, 3, 4, 5, 6, 7, 8, 9], [0, 1, 2, 3, 4, 5, 6, 7, 8, 9, 10], [0, 1, 2, 3, 4, 5, 6, 7, 8, 9, 10, 11]] [0, 3, 4, 12, 13, 96, 97, 98, 107, 108] []))) 
  (.reg [⟨some 124, (.bin .add false [] (.t 108) (.c (.i .i64 1))), none, []⟩,
    ⟨some 108, (.mv (.t 124)), none, []⟩] [0, 3, 4, 12, 13, 96, 97, 98, 107, 108] []))))
def c21_b0 : IC := 
  (.seq 
  (.reg [⟨some 99, (.bin .lss false [] (.t 98) (.t 97)), none, []⟩] [0, 3, 4, 12, 96, 97, 98, 99] []) 
  (.seq 
  (.cond (.t 99) .skip (.exit 4)) 
  (.seq 
  (.block 5 
    (.seq 
    (.reg [⟨some 100, (.mv (.t 98)), none, []⟩,
      ⟨some 101, (.ixs 1 (.t 96) (.t 98)), none, []⟩,
      ⟨some 102, (.ld 1 false (.t 101)), none, []⟩,
      ⟨some 13, (.mv (.t 100)), none, []⟩,
      ⟨some 14, (.mv (.t 102)), none, []⟩] [0, 3, 4, 12, 13, 14, 96, 97, 98] []) 
    (.seq 
    (.reg [⟨some 103, (.mv (.t 0)), none, []⟩,
      ⟨some 104, (.mv (.t 14)), none, []⟩,
      ⟨some 105, (.ixs 5 (.t 103) (.t 104)), none, []⟩,
      ⟨some 106, (.fa 0 (.t 105)), none, []⟩,
      ⟨some 107, (.ld 3 true (.t 106)), none, []⟩,
      ⟨some 108, (.mv (.c (.i .i64 0))), none, []⟩] [0, 3, 4, 12, 13, 96, 97, 98, 107, 108] []) 
    (.block 6 (.loop c21_b1))))) c21_s4)))
def c21_s5 : IC := 
  (.seq 
  (.seq 
  (.reg [⟨some 95, (.fa 0 (.t 3)), none, []⟩,
    ⟨some 96, (.ld 1 false (.t 95)), none, []⟩,
    ⟨some 97, (.len false (.t 96)), none, []⟩,
    ⟨some 98, (.mv (.c (.i .i64 0))), none, []⟩] [0, 3, 4, 12, 96, 97, 98] []) 
  (.block 4 (.loop c21_b0))) c21_s3)
def c21_s6 : IC := 
  (.seq 
  (.reg [⟨some 12, (.al [(.i .i64 0), (.i .i64 0), (.i .i64 0)]), none, []⟩] [0, 3, 4, 12] []) c21_s5)
def c21_s7 : IC := 
  (.seq 
  (.seq 
  (.reg [⟨some 91, (.mv (.t 7)), none, []⟩,
    ⟨some 92, (.bin .neq false [1] (.t 91) (.c (.i .i64 0))), none, []⟩] [0, 3, 4, 7, 92] []) 
  (.cond (.t 92) 
    (.seq 
    (.reg [⟨some 93, (.bd [(.i .i64 0), (.i .i64 0)] []), none, []⟩,
      ⟨some 94, (.mv (.t 7)), none, []⟩,
      ⟨none, (.st 2 (.t 4) (.t 93)), none, []⟩,
      ⟨some 5, (.mv (.t 94)), none, []⟩] [4, 5] [3]) .ret) .skip)) c21_s6)
def c21_b2 : IC := 
  (.seq 
  (.reg [⟨some 81, (.bin .lss false [] (.t 80) (.t 79)), none, []⟩] [0, 3, 4, 7, 78, 79, 80, 81] []) 
  (.seq 
  (.cond (.t 81) .skip (.exit 2)) 
  (.seq 
  (.block 3 
    (.seq 
    (.reg [⟨some 82, (.ixs 1 (.t 78) (.t 80)), none, []⟩,
      ⟨some 83, (.ld 1 false (.t 82)), none, []⟩,
      ⟨some 11, (.mv (.t 83)), none, []⟩] [0, 3, 4, 7, 11, 78, 79, 80] []) 
    (.reg [⟨some 84, (.mv (.t 7)), none, []⟩,
      ⟨some 85, (.mv (.t 11)), none, []⟩,
      ⟨some 86, (.call (.f 59) [(.t 85), (.c (.i .i64 1000000000))]), none, []⟩,
      ⟨some 87, (.call (.f 43) [(.t 86), (.c (.i .i64 2))]), none, []⟩,
      ⟨some 88, (.bsl (.int .i64) false [(.t 84), (.t 87)]), none, []⟩,
      ⟨some 89, (.call (.f 40) [(.t 88)]), none, []⟩,
      ⟨some 7, (.mv (.t 89)), none, []⟩] [0, 3, 4, 7, 78, 79, 80] []))) 
  (.reg [⟨some 90, (.bin .add false [] (.t 80) (.c (.i .i64 1))), none, []⟩,
    ⟨some 80, (.mv (.t 90)), none, []⟩] [0, 3, 4, 7, 78, 79, 80] []))))
def c21_s8 : IC := 
  (.seq 
  (.seq 
  (.reg [⟨some 77, (.fa 1 (.t 3)), none, []⟩,
    ⟨some 78, (.ld 1 false (.t 77)), none, []⟩,
    ⟨some 79, (.len false (.t 78)), none, []⟩,
    ⟨some 80, (.mv (.c (.i .i64 0))), none, []⟩] [0, 3, 4, 7, 78, 79, 80] []) 
  (.block 2 (.loop c21_b2))) c21_s7)
def c21_b3 : IC := 
  (.seq 
  (.reg [⟨some 49, (.bin .lss false [] (.t 48) (.t 47)), none, []⟩] [0, 3, 4, 7, 46, 47, 48, 49] []) 
  (.seq 
  (.cond (.t 49) .skip (.exit 0)) 
  (.seq 
  (.block 1 
    (.seq 
    (.reg [⟨some 50, (.mv (.t 48)), none, []⟩,
      ⟨some 51, (.ixs 1 (.t 46) (.t 48)), none, []⟩,
      ⟨some 52, (.ld 1 false (.t 51)), none, []⟩,
      ⟨some 8, (.mv (.t 50)), none, []⟩,
      ⟨some 9, (.mv (.t 52)), none, []⟩] [0, 3, 4, 7, 8, 9, 46, 47, 48] []) 
    (.reg [⟨some 53, (.mv (.t 7)), none, []⟩,
      ⟨some 54, (.mv (.t 9)), none, []⟩,
      ⟨some 55, (.mv (.t 0)), none, []⟩,
      ⟨some 56, (.len false (.t 55)), none, []⟩,
      ⟨some 57, (.bin .sub false [] (.t 56) (.c (.i .i64 1))), none, []⟩,
      ⟨some 58, (.call (.f 58) [(.t 54), (.c (.i .i64 0)), (.t 57)]), none, []⟩,
      ⟨some 59, (.call (.f 43) [(.t 58), (.c (.i .i64 6))]), none, []⟩,
      ⟨some 60, (.mv (.t 8)), none, []⟩,
      ⟨some 61, (.bin .eql false [1] (.t 60) (.c (.i .i64 0))), none, []⟩,
      ⟨some 62, (.mv (.t 61)), none, []⟩,
      ⟨some 63, (.mv (.t 9)), some (62, false), []⟩,
      ⟨some 64, (.fa 0 (.t 3)), some (62, false), []⟩,
      ⟨some 65, (.ld 1 false (.t 64)), some (62, false), []⟩,
      ⟨some 66, (.mv (.t 8)), some (62, false), []⟩,
      ⟨some 67, (.bin .sub false [] (.t 66) (.c (.i .i64 1))), some (62, false), []⟩,
      ⟨some 68, (.mx [(.c (.i .i64 0)), (.t 67)]), some (62, false), []⟩,
      ⟨some 69, (.ixs 1 (.t 65) (.t 68)), some (62, false), []⟩,
      ⟨some 70, (.ld 1 false (.t 69)), some (62, false), []⟩,
      ⟨some 71, (.bin .gtr false [] (.t 63) (.t 70)), some (62, false), []⟩,
      ⟨some 72, (.pick (.t 62) (.c (.b true)) (.t 71)), none, []⟩,
      ⟨some 73, (.call (.f 43) [(.t 72), (.c (.i .i64 9))]), none, []⟩,
      ⟨some 74, (.bsl (.int .i64) false [(.t 53), (.t 59), (.t 73)]), none, []⟩,
      ⟨some 75, (.call (.f 40) [(.t 74)]), none, []⟩,
      ⟨some 7, (.mv (.t 75)), none, []⟩] [0, 3, 4, 7, 46, 47, 48] []))) 
  (.reg [⟨some 76, (.bin .add false [] (.t 48) (.c (.i .i64 1))), none, []⟩,
    ⟨some 48, (.mv (.t 76)), none, []⟩] [0, 3, 4, 7, 46, 47, 48] []))))
def c21_s9 : IC := 
  (.seq 
  (.seq 
  (.reg [⟨some 45, (.fa 0 (.t 3)), none, []⟩,
    ⟨some 46, (.ld 1 false (.t 45)), none, []⟩,
    ⟨some 47, (.len false (.t 46)), none, []⟩,
    ⟨some 48, (.mv (.c (.i .i64 0))), none, []⟩] [0, 3, 4, 7, 46, 47, 48] []) 
  (.block 0 (.loop c21_b3))) c21_s8)
def c21_s10 : IC := 
  (.seq 
  (.seq 
  (.reg [⟨some 24, (.mv (.t 7)), none, []⟩,
    ⟨some 25, (.fa 0 (.t 3)), none, []⟩,
    ⟨some 26, (.ld 1 false (.t 25)), none, []⟩,
    ⟨some 27, (.len false (.t 26)), none, []⟩,
    ⟨some 28, (.bin .gtr false [] (.t 27) (.c (.i .i64 0))), none, []⟩,
    ⟨some 29, (.mv (.t 28)), none, []⟩,
    ⟨some 30, (.fa 0 (.t 3)), some (29, true), []⟩,
    ⟨some 31, (.ld 1 false (.t 30)), some (29, true), []⟩,
    ⟨some 32, (.len false (.t 31)), some (29, true), []⟩,
    ⟨some 33, (.fa 1 (.t 3)), some (29, true), []⟩,
    ⟨some 34, (.ld 1 false (.t 33)), some (29, true), []⟩,
    ⟨some 35, (.len false (.t 34)), some (29, true), []⟩,
    ⟨some 36, (.bin .eql false [1] (.t 32) (.t 35)), some (29, true), []⟩,
    ⟨some 37, (.pick (.t 29) (.t 36) (.c (.b false))), none, []⟩,
    ⟨some 38, (.call (.f 43) [(.t 37), (.c (.i .i64 10))]), none, []⟩,
    ⟨some 39, (.bsl (.int .i64) false [(.t 24), (.t 38)]), none, []⟩,
    ⟨some 40, (.call (.f 40) [(.t 39)]), none, []⟩,
    ⟨some 7, (.mv (.t 40)), none, []⟩] [0, 3, 4, 7] []) 
  (.seq 
  (.reg [⟨some 41, (.mv (.t 7)), none, []⟩,
    ⟨some 42, (.bin .neq false [1] (.t 41) (.c (.i .i64 0))), none, []⟩] [0, 3, 4, 7, 42] []) 
  (.cond (.t 42) 
    (.seq 
    (.reg [⟨some 43, (.bd [(.i .i64 0), (.i .i64 0)] []), none, []⟩,
      ⟨some 44, (.mv (.t 7)), none, []⟩,
      ⟨none, (.st 2 (.t 4) (.t 43)), none, []⟩,
      ⟨some 5, (.mv (.t 44)), none, []⟩] [4, 5] [3]) .ret) .skip))) c21_s9)
def c21_s11 : IC := 
  (.seq 
  (.reg [⟨some 20, (.mv (.t 0)), none, []⟩,
    ⟨some 21, (.call (.f 47) [(.t 20)]), none, []⟩,
    ⟨some 19, (.mv (.t 21)), none, []⟩,
    ⟨some 22, (.ex (.t 19) 0), none, []⟩,
    ⟨some 23, (.ex (.t 19) 1), none, []⟩,
    ⟨some 6, (.mv (.t 22)), none, []⟩,
    ⟨some 7, (.mv (.t 23)), none, []⟩] [0, 3, 4, 7] []) c21_s10)
def c21 : IC := 
  (.seq 
  (.reg [⟨some 3, (.bx (.t 1)), none, []⟩,
    ⟨some 4, (.al [(.i .i64 0), (.i .i64 0)]), none, []⟩,
    ⟨some 5, (.mv (.c (.i .i64 0))), none, []⟩] [0, 3, 4] []) c21_s11)
def f21 : IF := ⟨c21, 2, [(.c 4 2 true), (.t 5)]⟩
def c21_k1 {R : Type} (H : Hk R) (Y : Yt R) (dp : Nat) (K : Ex → Env → Mem → Option R) : Ex → Env → Mem → Option R := (kBlk 6 (kBlk 5 (kSeq (fun env mem k => evC H Y c21_s4 dp env mem k) K)))
def c21_k0 {R : Type} (H : Hk R) (Y : Yt R) (dp : Nat) (K : Ex → Env → Mem → Option R) : Ex → Env → Mem → Option R := (kBlk 4 (kSeq (fun env mem k => evC H Y c21_s3 dp env mem k) K))
def c21_k2 {R : Type} (H : Hk R) (Y : Yt R) (dp : Nat) (K : Ex → Env → Mem → Option R) : Ex → Env → Mem → Option R := (kBlk 2 (kSeq (fun env mem k => evC H Y c21_s7 dp env mem k) K))
def c21_k3 {R : Type} (H : Hk R) (Y : Yt R) (dp : Nat) (K : Ex → Env → Mem → Option R) : Ex → Env → Mem → Option R := (kBlk 0 (kSeq (fun env mem k => evC H Y c21_s8 dp env mem k) K))

/- glidepath/glidepathref04.CopyProof -/
def c22_s0 : IC := .ret
def c22_s1 : IC := 
  (.seq 
  (.dreg [⟨some 3, (.fa 0 (.t 1)), none, []⟩,
    ⟨some 4, (.ld 1 false (.t 3)), none, []⟩,
    ⟨some 5, (.call (.f 60) [(.t 4)]), none, []⟩,
    ⟨some 6, (.fa 1 (.t 1)), none, []⟩,
    ⟨some 7, (.ld 1 false (.t 6)), none, []⟩,
    ⟨some 8, (.call (.f 60) [(.t 7)]), none, []⟩,
    ⟨some 9, (.bd [(.sl (.int .i64) [] false true), (.sl (.int .i64) [] false true)] [(0, 1, (.t 5)), (1, 1, (.t 8))]), none, []⟩,
    ⟨none, (.st 2 (.t 2) (.t 9)), none, []⟩] [[], [0], [0, 1], [], [3], [0, 1, 2, 3, 4], [0, 1, 2, 3, 4, 5], [0, 1, 2, 3, 4, 5, 6]] [2] [1]) c22_s0)
def c22 : IC := 
  (.seq 
  (.reg [⟨some 1, (.bx (.t 0)), none, []⟩,
    ⟨some 2, (.al [(.sl (.int .i64) [] false true), (.sl (.int .i64) [] false true)]), none, []⟩] [1, 2] []) c22_s1)
def f22 : IF := ⟨c22, 1, [(.c 2 2 true)]⟩

/- glidepath/glidepathref04.ProofErr -/
def c23_s0 : IC := .ret
def c23_s1 : IC := 
  (.seq 
  (.reg [⟨some 4, (.mv (.c (.i .i64 0))), none, []⟩] [4] []) c23_s0)
def c23_s2 : IC := 
  (.seq 
  (.seq 
  (.reg [⟨some 72, (.mv (.t 0)), none, []⟩,
    ⟨some 73, (.ld 2 true (.t 3)), none, []⟩,
    ⟨some 74, (.call (.f 62) [(.t 72), (.t 73)]), none, []⟩,
    ⟨some 7, (.al [(.i .i64 0), (.i .i64 0)]), none, []⟩,
    ⟨none, (.st 2 (.t 7) (.t 74)), none, []⟩] [7] [3]) 
  (.seq 
  (.reg [⟨some 75, (.fa 0 (.t 7)), none, []⟩,
    ⟨some 76, (.ld 1 false (.t 75)), none, []⟩,
    ⟨some 77, (.bin .leq false [] (.t 76) (.c (.i .i64 0))), none, []⟩,
    ⟨some 78, (.mv (.t 77)), none, []⟩,
    ⟨some 79, (.fa 1 (.t 7)), some (78, true), []⟩,
    ⟨some 80, (.ld 1 false (.t 79)), some (78, true), []⟩,
    ⟨some 81, (.bin .geq false [] (.t 80) (.c (.i .i64 0))), some (78, true), []⟩,
    ⟨some 82, (.pick (.t 78) (.t 81) (.c (.b false))), none, []⟩] [82] [7]) 
  (.cond (.t 82) 
    (.seq 
    (.reg [⟨some 4, (.mv (.c (.i .i64 17))), none, []⟩] [4] []) .ret) .skip))) c23_s1)
def c23_s3 : IC := 
  (.seq 
  (.seq 
  (.reg [⟨some 68, (.mv (.t 0)), none, []⟩,
    ⟨some 69, (.ld 2 true (.t 3)), none, []⟩,
    ⟨some 70, (.call (.f 61) [(.t 68), (.t 69)]), none, []⟩,
    ⟨some 71, (.un .not (.t 70)), none, []⟩] [0, 3, 71] []) 
  (.cond (.t 71) 
    (.seq 
    (.reg [⟨some 4, (.mv (.c (.i .i64 3))), none, []⟩] [4] [3]) .ret) .skip)) c23_s2)
def c23_b0 : IC := 
  (.seq 
  (.seq 
  (.reg [⟨some 54, (.mv (.t 6)), none, []⟩,
    ⟨some 55, (.fa 1 (.t 3)), none, []⟩,
    ⟨some 56, (.ld 1 false (.t 55)), none, []⟩,
    ⟨some 57, (.len false (.t 56)), none, []⟩,
    ⟨some 58, (.bin .lss false [] (.t 54) (.t 57)), none, []⟩] [0, 3, 6, 58] []) 
  (.cond (.t 58) .skip (.exit 2))) 
  (.seq 
  (.block 3 
    (.seq 
    (.reg [⟨some 61, (.fa 1 (.t 3)), none, []⟩,
      ⟨some 62, (.ld 1 false (.t 61)), none, []⟩,
      ⟨some 63, (.mv (.t 6)), none, []⟩,
      ⟨some 64, (.ixs 1 (.t 62) (.t 63)), none, []⟩,
      ⟨some 65, (.ld 1 false (.t 64)), none, []⟩,
      ⟨some 66, (.call (.f 26) [(.t 65), (.c (.i .i64 (-1000000000))), (.c (.i .i64 1000000000))]), none, []⟩,
      ⟨some 67, (.un .not (.t 66)), none, []⟩] [0, 3, 6, 67] []) 
    (.cond (.t 67) 
      (.seq 
      (.reg [⟨some 4, (.mv (.c (.i .i64 2))), none, []⟩] [4] [3]) .ret) .skip))) 
  (.reg [⟨some 59, (.mv (.t 6)), none, []⟩,
    ⟨some 60, (.bin .add false [] (.t 59) (.c (.i .i64 1))), none, []⟩,
    ⟨some 6, (.mv (.t 60)), none, []⟩] [0, 3, 6] [])))
def c23_s4 : IC := 
  (.seq 
  (.seq 
  (.reg [⟨some 6, (.mv (.c (.i .i64 0))), none, []⟩] [0, 3, 6] []) 
  (.block 2 (.loop c23_b0))) c23_s3)
def c23_b1 : IC := 
  (.seq 
  (.seq 
  (.reg [⟨some 21, (.mv (.t 5)), none, []⟩,
    ⟨some 22, (.fa 0 (.t 3)), none, []⟩,
    ⟨some 23, (.ld 1 false (.t 22)), none, []⟩,
    ⟨some 24, (.len false (.t 23)), none, []⟩,
    ⟨some 25, (.bin .lss false [] (.t 21) (.t 24)), none, []⟩] [0, 3, 5, 25] []) 
  (.cond (.t 25) .skip (.exit 0))) 
  (.seq 
  (.block 1 
    (.seq 
    (.seq 
    (.reg [⟨some 28, (.fa 0 (.t 3)), none, []⟩,
      ⟨some 29, (.ld 1 false (.t 28)), none, []⟩,
      ⟨some 30, (.mv (.t 5)), none, []⟩,
      ⟨some 31, (.ixs 1 (.t 29) (.t 30)), none, []⟩,
      ⟨some 32, (.ld 1 false (.t 31)), none, []⟩,
      ⟨some 33, (.mv (.t 0)), none, []⟩,
      ⟨some 34, (.len false (.t 33)), none, []⟩,
      ⟨some 35, (.bin .sub false [] (.t 34) (.c (.i .i64 1))), none, []⟩,
      ⟨some 36, (.call (.f 26) [(.t 32), (.c (.i .i64 0)), (.t 35)]), none, []⟩,
      ⟨some 37, (.un .not (.t 36)), none, []⟩] [0, 3, 5, 37] []) 
    (.cond (.t 37) 
      (.seq 
      (.reg [⟨some 4, (.mv (.c (.i .i64 6))), none, []⟩] [4] [3]) .ret) .skip)) 
    (.seq 
    (.dreg [⟨some 38, (.mv (.t 5)), none, []⟩,
      ⟨some 39, (.bin .gtr false [] (.t 38) (.c (.i .i64 0))), none, []⟩,
      ⟨some 40, (.mv (.t 39)), none, []⟩,
      ⟨some 41, (.fa 0 (.t 3)), some (40, true), []⟩,
      ⟨some 42, (.ld 1 false (.t 41)), some (40, true), []⟩,
      ⟨some 43, (.mv (.t 5)), some (40, true), []⟩,
      ⟨some 44, (.ixs 1 (.t 42) (.t 43)), some (40, true), []⟩,
      ⟨some 45, (.ld 1 false (.t 44)), some (40, true), []⟩,
      ⟨some 46, (.fa 0 (.t 3)), some (40, true), []⟩,
      ⟨some 47, (.ld 1 false (.t 46)), some (40, true), []⟩,
      ⟨some 48, (.mv (.t 5)), some (40, true), []⟩,
      ⟨some 49, (.bin .sub false [] (.t 48) (.c (.i .i64 1))), some (40, true), []⟩,
      ⟨some 50, (.ixs 1 (.t 47) (.t 49)), some (40, true), []⟩,
      ⟨some 51, (.ld 1 false (.t 50)), some (40, true), []⟩,
      ⟨some 52, (.bin .leq false [] (.t 45) (.t 51)), some (40, true), []⟩,
      ⟨some 53, (.pick (.t 40) (.t 52) (.c (.b false))), none, []⟩] [[], [0], [0, 1], [0, 1, 2], [0, 1, 2, 3], [0, 1, 2], [0, 1, 2, 3, 4, 5], [0, 1, 2, 3, 4, 5, 6], [0, 1, 2], [0, 1, 2, 8], [0, 1, 2], [0, 1, 2, 10], [0, 1, 2, 8, 9, 10, 11], [0, 1, 2, 8, 9, 10, 11, 12], [0, 1, 2, 3, 4, 5, 6, 7, 8, 9, 10, 11, 12, 13], [0, 1, 2, 3, 4, 5, 6, 7, 8, 9, 10, 11, 12, 13, 14]] [0, 3, 5, 53] []) 
    (.cond (.t 53) 
      (.seq 
      (.reg [⟨some 4, (.mv (.c (.i .i64 9))), none, []⟩] [4] [3]) .ret) .skip)))) 
  (.reg [⟨some 26, (.mv (.t 5)), none, []⟩,
    ⟨some 27, (.bin .add false [] (.t 26) (.c (.i .i64 1))), none, []⟩,
    ⟨some 5, (.mv (.t 27)), none, []⟩] [0, 3, 5] [])))
def c23_s5 : IC := 
  (.seq 
  (.seq 
  (.reg [⟨some 5, (.mv (.c (.i .i64 0))), none, []⟩] [0, 3, 5] []) 
  (.block 0 (.loop c23_b1))) c23_s4)
def c23_s6 : IC := 
  (.seq 
  (.seq 
  (.reg [⟨some 8, (.fa 0 (.t 3)), none, []⟩,
    ⟨some 9, (.ld 1 false (.t 8)), none, []⟩,
    ⟨some 10, (.len false (.t 9)), none, []⟩,
    ⟨some 11, (.bin .eql false [1] (.t 10) (.c (.i .i64 0))), none, []⟩,
    ⟨some 12, (.mv (.t 11)), none, []⟩,
    ⟨some 13, (.fa 1 (.t 3)), some (12, false), []⟩,
    ⟨some 14, (.ld 1 false (.t 13)), some (12, false), []⟩,
    ⟨some 15, (.len false (.t 14)), some (12, false), []⟩,
    ⟨some 16, (.fa 0 (.t 3)), some (12, false), []⟩,
    ⟨some 17, (.ld 1 false (.t 16)), some (12, false), []⟩,
    ⟨some 18, (.len false (.t 17)), some (12, false), []⟩,
    ⟨some 19, (.bin .neq false [1] (.t 15) (.t 18)), some (12, false), []⟩,
    ⟨some 20, (.pick (.t 12) (.c (.b true)) (.t 19)), none, []⟩] [0, 3, 20] []) 
  (.cond (.t 20) 
    (.seq 
    (.reg [⟨some 4, (.mv (.c (.i .i64 10))), none, []⟩] [4] [3]) .ret) .skip)) c23_s5)
def c23 : IC := 
  (.seq 
  (.reg [⟨some 3, (.bx (.t 1)), none, []⟩,
    ⟨some 4, (.mv (.c (.i .i64 0))), none, []⟩] [0, 3] []) c23_s6)
def f23 : IF := ⟨c23, 2, [(.t 4)]⟩
def c23_k0 {R : Type} (H : Hk R) (Y : Yt R) (dp : Nat) (K : Ex → Env → Mem → Option R) : Ex → Env → Mem → Option R := (kBlk 2 (kSeq (fun env mem k => evC H Y c23_s3 dp env mem k) K))
def c23_k1 {R : Type} (H : Hk R) (Y : Yt R) (dp : Nat) (K : Ex → Env → Mem → Option R) : Ex → Env → Mem → Option R := (kBlk 0 (kSeq (fun env mem k => evC H Y c23_s4 dp env mem k) K))

/- glidepath/glidepathref04.Rank -/
def c24_s0 : IC := .ret
def c24_s1 : IC := 
  (.seq 
  (.reg [⟨some 58, (.mv (.t 3)), none, []⟩,
    ⟨some 2, (.mv (.t 58)), none, []⟩] [2] []) c24_s0)
def c24_s2 : IC := 
  (.reg [⟨some 11, (.mv (.t 4)), none, []⟩,
    ⟨some 12, (.bin .add false [] (.t 11) (.c (.i .i64 1))), none, []⟩,
    ⟨some 4, (.mv (.t 12)), none, []⟩] [0, 3, 4] [])
def c24_s3 : IC := 
  (.reg [⟨some 24, (.mv (.t 5)), none, []⟩,
    ⟨some 25, (.bin .add false [] (.t 24) (.c (.i .i64 1))), none, []⟩,
    ⟨some 5, (.mv (.t 25)), none, []⟩] [0, 3, 4, 5] [])
def c24_b2 : IC := 
  (.seq 
  (.seq 
  (.reg [⟨some 39, (.mv (.t 6)), none, []⟩,
    ⟨some 40, (.mv (.t 5)), none, []⟩,
    ⟨some 41, (.bin .lss false [] (.t 39) (.t 40)), none, []⟩] [0, 3, 4, 5, 6, 41] []) 
  (.cond (.t 41) .skip (.exit 4))) 
  (.seq 
  (.block 5 
    (.seq 
    (.dreg [⟨some 44, (.mv (.t 0)), none, []⟩,
      ⟨some 45, (.mv (.t 4)), none, []⟩,
      ⟨some 46, (.ixs 3 (.t 44) (.t 45)), none, []⟩,
      ⟨some 47, (.ld 3 true (.t 46)), none, []⟩,
      ⟨some 48, (.mv (.t 0)), none, []⟩,
      ⟨some 49, (.mv (.t 5)), none, []⟩,
      ⟨some 50, (.ixs 3 (.t 48) (.t 49)), none, []⟩,
      ⟨some 51, (.ld 3 true (.t 50)), none, []⟩,
      ⟨some 52, (.mv (.t 0)), none, []⟩,
      ⟨some 53, (.mv (.t 6)), none, []⟩,
      ⟨some 54, (.ixs 3 (.t 52) (.t 53)), none, []⟩,
      ⟨some 55, (.ld 3 true (.t 54)), none, []⟩,
      ⟨some 56, (.call (.f 64) [(.t 47), (.t 51), (.t 55)]), none, []⟩,
      ⟨some 57, (.bin .neq false [1] (.t 56) (.c (.i .i64 0))), none, []⟩] [[], [], [0, 1], [0, 1, 2], [], [], [4, 5], [4, 5, 6], [], [], [8, 9], [8, 9, 10], [0, 1, 2, 3, 4, 5, 6, 7, 8, 9, 10, 11], [0, 1, 2, 3, 4, 5, 6, 7, 8, 9, 10, 11, 12]] [0, 3, 4, 5, 6, 57] []) 
    (.cond (.t 57) 
      (.reg [⟨some 3, (.mv (.c (.i .i64 3))), none, []⟩] [0, 3, 4, 5, 6] []) .skip))) 
  (.reg [⟨some 42, (.mv (.t 6)), none, []⟩,
    ⟨some 43, (.bin .add false [] (.t 42) (.c (.i .i64 1))), none, []⟩,
    ⟨some 6, (.mv (.t 43)), none, []⟩] [0, 3, 4, 5, 6] [])))
def c24_b1 : IC := 
  (.seq 
  (.seq 
  (.reg [⟨some 21, (.mv (.t 5)), none, []⟩,
    ⟨some 22, (.mv (.t 4)), none, []⟩,
    ⟨some 23, (.bin .lss false [] (.t 21) (.t 22)), none, []⟩] [0, 3, 4, 5, 23] []) 
  (.cond (.t 23) .skip (.exit 2))) 
  (.seq 
  (.block 3 
    (.seq 
    (.seq 
    (.dreg [⟨some 26, (.mv (.t 0)), none, []⟩,
      ⟨some 27, (.mv (.t 4)), none, []⟩,
      ⟨some 28, (.ixs 3 (.t 26) (.t 27)), none, []⟩,
      ⟨some 29, (.ld 3 true (.t 28)), none, []⟩,
      ⟨some 30, (.mv (.t 0)), none, []⟩,
      ⟨some 31, (.mv (.t 5)), none, []⟩,
      ⟨some 32, (.ixs 3 (.t 30) (.t 31)), none, []⟩,
      ⟨some 33, (.ld 3 true (.t 32)), none, []⟩,
      ⟨some 34, (.call (.f 63) [(.t 29), (.t 33)]), none, []⟩,
      ⟨some 35, (.bd [(.i .i64 0), (.i .i64 0), (.i .i64 0)] []), none, []⟩,
      ⟨some 36, (.bin .neq true [1, 1, 1] (.t 34) (.t 35)), none, []⟩] [[], [], [0, 1], [0, 1, 2], [], [], [4, 5], [4, 5, 6], [0, 1, 2, 3, 4, 5, 6, 7], [], [0, 1, 2, 3, 4, 5, 6, 7, 8, 9]] [0, 3, 4, 5, 36] []) 
    (.cond (.t 36) 
      (.reg [⟨some 37, (.mv (.t 3)), none, []⟩,
        ⟨some 38, (.mx [(.t 37), (.c (.i .i64 2))]), none, []⟩,
        ⟨some 3, (.mv (.t 38)), none, []⟩] [0, 3, 4, 5] []) .skip)) 
    (.seq 
    (.reg [⟨some 6, (.mv (.c (.i .i64 0))), none, []⟩] [0, 3, 4, 5, 6] []) 
    (.block 4 (.loop c24_b2))))) c24_s3))
def c24_b0 : IC := 
  (.seq 
  (.seq 
  (.reg [⟨some 7, (.mv (.t 4)), none, []⟩,
    ⟨some 8, (.mv (.t 0)), none, []⟩,
    ⟨some 9, (.len false (.t 8)), none, []⟩,
    ⟨some 10, (.bin .lss false [] (.t 7) (.t 9)), none, []⟩] [0, 3, 4, 10] []) 
  (.cond (.t 10) .skip (.exit 0))) 
  (.seq 
  (.block 1 
    (.seq 
    (.seq 
    (.reg [⟨some 13, (.mv (.t 0)), none, []⟩,
      ⟨some 14, (.mv (.t 4)), none, []⟩,
      ⟨some 15, (.ixs 3 (.t 13) (.t 14)), none, []⟩,
      ⟨some 16, (.ld 3 true (.t 15)), none, []⟩,
      ⟨some 17, (.bd [(.i .i64 0), (.i .i64 0), (.i .i64 0)] []), none, []⟩,
      ⟨some 18, (.bin .neq true [1, 1, 1] (.t 16) (.t 17)), none, []⟩] [0, 3, 4, 18] []) 
    (.cond (.t 18) 
      (.reg [⟨some 19, (.mv (.t 3)), none, []⟩,
        ⟨some 20, (.mx [(.t 19), (.c (.i .i64 1))]), none, []⟩,
        ⟨some 3, (.mv (.t 20)), none, []⟩] [0, 3, 4] []) .skip)) 
    (.seq 
    (.reg [⟨some 5, (.mv (.c (.i .i64 0))), none, []⟩] [0, 3, 4, 5] []) 
    (.block 2 (.loop c24_b1))))) c24_s2))
def c24_s4 : IC := 
  (.seq 
  (.seq 
  (.reg [⟨some 4, (.mv (.c (.i .i64 0))), none, []⟩] [0, 3, 4] []) 
  (.block 0 (.loop c24_b0))) c24_s1)
def c24_s5 : IC := 
  (.seq 
  (.reg [⟨some 3, (.mv (.c (.i .i64 0))), none, []⟩] [0, 3] []) c24_s4)
def c24 : IC := 
  (.seq 
  (.reg [⟨some 2, (.mv (.c (.i .i64 0))), none, []⟩] [0] []) c24_s5)
def f24 : IF := ⟨c24, 1, [(.t 2)]⟩
def c24_k2 {R : Type} (H : Hk R) (Y : Yt R) (dp : Nat) (K : Ex → Env → Mem → Option R) : Ex → Env → Mem → Option R := (kBlk 4 (kBlk 3 (kSeq (fun env mem k => evC H Y c24_s3 dp env mem k) K)))
def c24_k1 {R : Type} (H : Hk R) (Y : Yt R) (dp : Nat) (K : Ex → Env → Mem → Option R) : Ex → Env → Mem → Option R := (kBlk 2 (kBlk 1 (kSeq (fun env mem k => evC H Y c24_s2 dp env mem k) K)))
def c24_k0 {R : Type} (H : Hk R) (Y : Yt R) (dp : Nat) (K : Ex → Env → Mem → Option R) : Ex → Env → Mem → Option R := (kBlk 0 (kSeq (fun env mem k => evC H Y c24_s1 dp env mem k) K))

/- glidepath/glidepathref04.Directions -/
def c25_s0 : IC := .ret
def c25_s1 : IC := 
  (.seq 
  (.reg [⟨some 19, (.mv (.t 3)), none, []⟩,
    ⟨some 2, (.mv (.t 19)), none, []⟩] [2] []) c25_s0)
def c25_b0 : IC := 
  (.seq 
  (.seq 
  (.reg [⟨some 5, (.mv (.t 4)), none, []⟩,
    ⟨some 6, (.mv (.t 0)), none, []⟩,
    ⟨some 7, (.len false (.t 6)), none, []⟩,
    ⟨some 8, (.bin .lss false [] (.t 5) (.t 7)), none, []⟩] [0, 3, 4, 8] []) 
  (.cond (.t 8) .skip (.exit 0))) 
  (.seq 
  (.block 1 
    (.reg [⟨some 11, (.mv (.t 3)), none, []⟩,
      ⟨some 12, (.mv (.t 0)), none, []⟩,
      ⟨some 13, (.mv (.t 4)), none, []⟩,
      ⟨some 14, (.ixs 5 (.t 12) (.t 13)), none, []⟩,
      ⟨some 15, (.fa 0 (.t 14)), none, []⟩,
      ⟨some 16, (.ld 3 true (.t 15)), none, []⟩,
      ⟨some 17, (.bsl (.prod (.int .i64) (.prod (.int .i64) (.int .i64))) false [(.t 16)]), none, []⟩,
      ⟨some 18, (.app (.prod (.int .i64) (.prod (.int .i64) (.int .i64))) 1466015503701 (.t 11) (.t 17)), none, []⟩,
      ⟨some 3, (.mv (.t 18)), none, []⟩] [0, 3, 4] [])) 
  (.reg [⟨some 9, (.mv (.t 4)), none, []⟩,
    ⟨some 10, (.bin .add false [] (.t 9) (.c (.i .i64 1))), none, []⟩,
    ⟨some 4, (.mv (.t 10)), none, []⟩] [0, 3, 4] [])))
def c25_s2 : IC := 
  (.seq 
  (.seq 
  (.reg [⟨some 4, (.mv (.c (.i .i64 0))), none, []⟩] [0, 3, 4] []) 
  (.block 0 (.loop c25_b0))) c25_s1)
def c25_s3 : IC := 
  (.seq 
  (.reg [⟨some 3, (.mv (.c (.sl (.prod (.int .i64) (.prod (.int .i64) (.int .i64))) [] false true))), none, []⟩] [0, 3] []) c25_s2)
def c25 : IC := 
  (.seq 
  (.reg [⟨some 2, (.mv (.c (.sl (.prod (.int .i64) (.prod (.int .i64) (.int .i64))) [] false true))), none, []⟩] [0] []) c25_s3)
def f25 : IF := ⟨c25, 1, [(.t 2)]⟩
def c25_k0 {R : Type} (H : Hk R) (Y : Yt R) (dp : Nat) (K : Ex → Env → Mem → Option R) : Ex → Env → Mem → Option R := (kBlk 0 (kSeq (fun env mem k => evC H Y c25_s1 dp env mem k) K))

/- glidepath/glidepathbase.Within -/
def c26_s0 : IC := .ret
def c26_s1 : IC := 
  (.seq 
  (.reg [⟨some 7, (.mv (.t 1)), none, []⟩,
    ⟨some 8, (.mv (.t 0)), none, []⟩,
    ⟨some 9, (.bin .leq false [] (.t 7) (.t 8)), none, []⟩,
    ⟨some 10, (.mv (.t 9)), none, []⟩,
    ⟨some 11, (.mv (.t 0)), some (10, true), []⟩,
    ⟨some 12, (.mv (.t 2)), some (10, true), []⟩,
    ⟨some 13, (.bin .leq false [] (.t 11) (.t 12)), some (10, true), []⟩,
    ⟨some 14, (.pick (.t 10) (.t 13) (.c (.b false))), none, []⟩,
    ⟨some 6, (.mv (.t 14)), none, []⟩] [6] []) c26_s0)
def c26 : IC := 
  (.seq 
  (.reg [⟨some 6, (.mv (.c (.b false))), none, []⟩] [0, 1, 2] []) c26_s1)
def f26 : IF := ⟨c26, 3, [(.t 6)]⟩

/- glidepath/wind.FitOf -/
def c27_s0 : IC := .ret
def c27_s1 : IC := 
  (.seq 
  (.reg [⟨some 15, (.mv (.t 4)), none, []⟩,
    ⟨some 16, (.call (.f 65) [(.t 15)]), none, []⟩,
    ⟨some 17, (.call (.f 66) [(.t 16), (.c (.i .i64 2))]), none, []⟩,
    ⟨none, (.st 4 (.t 2) (.t 17)), none, []⟩,
    ⟨some 3, (.mv (.c (.i .i64 0))), none, []⟩] [2, 3] []) c27_s0)
def c27_s2 : IC := 
  (.seq 
  (.seq 
  (.reg [⟨some 11, (.mv (.t 5)), none, []⟩,
    ⟨some 12, (.bin .neq false [1] (.t 11) (.c (.i .i64 0))), none, []⟩] [2, 4, 5, 12] []) 
  (.cond (.t 12) 
    (.seq 
    (.reg [⟨some 13, (.bd [(.i .i64 0), (.i .i64 0), (.i .i64 0), (.i .i64 0)] []), none, []⟩,
      ⟨some 14, (.mv (.t 5)), none, []⟩,
      ⟨none, (.st 4 (.t 2) (.t 13)), none, []⟩,
      ⟨some 3, (.mv (.t 14)), none, []⟩] [2, 3] []) .ret) .skip)) c27_s1)
def c27_s3 : IC := 
  (.seq 
  (.reg [⟨some 7, (.mv (.t 0)), none, []⟩,
    ⟨some 8, (.call (.f 53) [(.t 7)]), none, []⟩,
    ⟨some 6, (.mv (.t 8)), none, []⟩,
    ⟨some 9, (.ex (.t 6) 0), none, []⟩,
    ⟨some 10, (.ex (.t 6) 1), none, []⟩,
    ⟨some 4, (.mv (.t 9)), none, []⟩,
    ⟨some 5, (.mv (.t 10)), none, []⟩] [2, 4, 5] []) c27_s2)
def c27 : IC := 
  (.seq 
  (.reg [⟨some 2, (.al [(.i .i64 0), (.i .i64 0), (.i .i64 0), (.i .i64 0)]), none, []⟩,
    ⟨some 3, (.mv (.c (.i .i64 0))), none, []⟩] [0, 2] []) c27_s3)
def f27 : IF := ⟨c27, 1, [(.c 2 4 true), (.t 3)]⟩

/- glidepath/wind.CheckFit -/
def c28_s0 : IC := .ret
def c28_s1 : IC := 
  (.seq 
  (.reg [⟨some 4, (.mv (.c (.i .i64 0))), none, []⟩,
    ⟨some 5, (.mv (.c (.i .i64 0))), none, []⟩] [4, 5] []) c28_s0)
def c28_b0 : IC := 
  (.seq 
  (.reg [⟨some 70, (.bin .lss false [] (.t 69) (.c (.i .i64 3))), none, []⟩] [68, 69, 70] []) 
  (.seq 
  (.cond (.t 70) .skip (.exit 4)) 
  (.seq 
  (.block 5 
    (.seq 
    (.reg [⟨some 71, (.mv (.t 69)), none, []⟩,
      ⟨some 72, (.ixv 3 1 false (.t 68) (.t 69)), none, []⟩,
      ⟨some 14, (.mv (.t 71)), none, []⟩,
      ⟨some 15, (.mv (.t 72)), none, []⟩] [14, 15, 68, 69] []) 
    (.seq 
    (.reg [⟨some 73, (.mv (.t 15)), none, []⟩,
      ⟨some 74, (.bin .neq false [1] (.t 73) (.c (.i .i64 0))), none, []⟩] [14, 68, 69, 74] []) 
    (.cond (.t 74) 
      (.seq 
      (.reg [⟨some 75, (.mv (.t 14)), none, []⟩,
        ⟨some 4, (.mv (.t 75)), none, []⟩,
        ⟨some 5, (.mv (.c (.i .i64 17))), none, []⟩] [4, 5] []) .ret) .skip)))) 
  (.reg [⟨some 76, (.bin .add false [] (.t 69) (.c (.i .i64 1))), none, []⟩,
    ⟨some 69, (.mv (.t 76)), none, []⟩] [68, 69] []))))
def c28_s2 : IC := 
  (.seq 
  (.seq 
  (.reg [⟨some 68, (.ld 3 true (.t 8)), none, []⟩,
    ⟨some 69, (.mv (.c (.i .i64 0))), none, []⟩] [68, 69] [3, 8]) 
  (.block 4 (.loop c28_b0))) c28_s1)
def c28_s3 : IC := 
  (.reg [⟨some 67, (.bin .add false [] (.t 31) (.c (.i .i64 1))), none, []⟩,
    ⟨some 31, (.mv (.t 67)), none, []⟩] [3, 8, 29, 30, 31] [])
def c28_b2 : IC := 
  (.seq 
  (.reg [⟨some 55, (.bin .lss false [] (.t 54) (.c (.i .i64 3))), none, []⟩] [3, 8, 11, 29, 30, 31, 53, 54, 55] []) 
  (.seq 
  (.cond (.t 55) .skip (.exit 2)) 
  (.seq 
  (.block 3 
    (.seq 
    (.reg [⟨some 56, (.mv (.t 54)), none, []⟩,
      ⟨some 57, (.ixv 3 1 false (.t 53) (.t 54)), none, []⟩,
      ⟨some 12, (.mv (.t 56)), none, []⟩,
      ⟨some 13, (.mv (.t 57)), none, []⟩] [3, 8, 11, 12, 13, 29, 30, 31, 53, 54] []) 
    (.reg [⟨some 58, (.mv (.t 12)), none, []⟩,
      ⟨some 59, (.ixp 3 1 (.t 8) (.t 58)), none, []⟩,
      ⟨some 60, (.ld 1 false (.t 59)), none, []⟩,
      ⟨some 61, (.mv (.t 13)), none, []⟩,
      ⟨some 62, (.mv (.t 11)), none, []⟩,
      ⟨some 63, (.bin .mul false [] (.t 61) (.t 62)), none, []⟩,
      ⟨some 64, (.bin .add false [] (.t 60) (.t 63)), none, []⟩,
      ⟨some 65, (.ixp 3 1 (.t 8) (.t 58)), none, []⟩,
      ⟨none, (.st 1 (.t 65) (.t 64)), none, []⟩] [3, 8, 11, 29, 30, 31, 53, 54] []))) 
  (.reg [⟨some 66, (.bin .add false [] (.t 54) (.c (.i .i64 1))), none, []⟩,
    ⟨some 54, (.mv (.t 66)), none, []⟩] [3, 8, 11, 29, 30, 31, 53, 54] []))))
def c28_b1 : IC := 
  (.seq 
  (.reg [⟨some 32, (.bin .lss false [] (.t 31) (.t 30)), none, []⟩] [3, 8, 29, 30, 31, 32] []) 
  (.seq 
  (.cond (.t 32) .skip (.exit 0)) 
  (.seq 
  (.block 1 
    (.seq 
    (.reg [⟨some 33, (.ixs 5 (.t 29) (.t 31)), none, []⟩,
      ⟨some 34, (.ld 5 true (.t 33)), none, []⟩,
      ⟨some 10, (.al [(.i .i64 0), (.i .i64 0), (.i .i64 0), (.i .i64 0), (.i .i64 0)]), none, []⟩,
      ⟨none, (.st 5 (.t 10) (.t 34)), none, []⟩] [3, 8, 10, 29, 30, 31] []) 
    (.seq 
    (.dreg [⟨some 35, (.fa 3 (.t 10)), none, []⟩,
      ⟨some 36, (.fa 0 (.t 35)), none, []⟩,
      ⟨some 37, (.ld 1 false (.t 36)), none, []⟩,
      ⟨some 38, (.fa 3 (.t 10)), none, []⟩,
      ⟨some 39, (.fa 1 (.t 38)), none, []⟩,
      ⟨some 40, (.ld 1 false (.t 39)), none, []⟩,
      ⟨some 41, (.bin .add false [] (.t 37) (.t 40)), none, []⟩,
      ⟨some 42, (.fa 3 (.t 3)), none, []⟩,
      ⟨some 43, (.ld 1 false (.t 42)), none, []⟩,
      ⟨some 44, (.bin .mul false [] (.t 41) (.t 43)), none, []⟩,
      ⟨some 45, (.ld 4 true (.t 3)), none, []⟩,
      ⟨some 46, (.call (.f 67) [(.t 45)]), none, []⟩,
      ⟨some 47, (.fa 0 (.t 10)), none, []⟩,
      ⟨some 48, (.ld 3 true (.t 47)), none, []⟩,
      ⟨some 49, (.call (.f 68) [(.t 46), (.t 48)]), none, []⟩,
      ⟨some 50, (.bin .mul false [] (.c (.i .i64 2)) (.t 49)), none, []⟩,
      ⟨some 51, (.bin .sub false [] (.t 44) (.t 50)), none, []⟩,
      ⟨some 11, (.mv (.t 51)), none, []⟩] [[], [0], [0, 1], [], [3], [3, 4], [0, 1, 2, 3, 4, 5], [], [7], [0, 1, 2, 3, 4, 5, 6, 7, 8], [], [10], [], [12], [10, 11, 12, 13], [10, 11, 12, 13, 14], [0, 1, 2, 3, 4, 5, 6, 7, 8, 9, 10, 11, 12, 13, 14, 15], [0, 1, 2, 3, 4, 5, 6, 7, 8, 9, 10, 11, 12, 13, 14, 15, 16]] [3, 8, 10, 11, 29, 30, 31] []) 
    (.seq 
    (.reg [⟨some 52, (.fa 0 (.t 10)), none, []⟩,
      ⟨some 53, (.ld 3 true (.t 52)), none, []⟩,
      ⟨some 54, (.mv (.c (.i .i64 0))), none, []⟩] [3, 8, 11, 29, 30, 31, 53, 54] [10]) 
    (.block 2 (.loop c28_b2)))))) c28_s3)))
def c28_s4 : IC := 
  (.seq 
  (.seq 
  (.reg [⟨some 29, (.mv (.t 0)), none, []⟩,
    ⟨some 30, (.len false (.t 29)), none, []⟩,
    ⟨some 31, (.mv (.c (.i .i64 0))), none, []⟩] [3, 8, 29, 30, 31] []) 
  (.block 0 (.loop c28_b1))) c28_s2)
def c28_s5 : IC := 
  (.seq 
  (.reg [⟨some 8, (.al [(.i .i64 0), (.i .i64 0), (.i .i64 0)]), none, []⟩] [0, 3, 8] []) c28_s4)
def c28_s6 : IC := 
  (.seq 
  (.seq 
  (.reg [⟨some 21, (.mv (.t 7)), none, []⟩,
    ⟨some 22, (.ld 4 true (.t 3)), none, []⟩,
    ⟨some 23, (.call (.f 56) [(.t 22)]), none, []⟩,
    ⟨some 24, (.bsl (.int .i64) false [(.t 21), (.t 23)]), none, []⟩,
    ⟨some 25, (.call (.f 40) [(.t 24)]), none, []⟩,
    ⟨some 7, (.mv (.t 25)), none, []⟩] [0, 3, 7] []) 
  (.seq 
  (.reg [⟨some 26, (.mv (.t 7)), none, []⟩,
    ⟨some 27, (.bin .neq false [1] (.t 26) (.c (.i .i64 0))), none, []⟩] [0, 3, 7, 27] []) 
  (.cond (.t 27) 
    (.seq 
    (.reg [⟨some 28, (.mv (.t 7)), none, []⟩,
      ⟨some 4, (.mv (.c (.i .i64 0))), none, []⟩,
      ⟨some 5, (.mv (.t 28)), none, []⟩] [4, 5] [3]) .ret) .skip))) c28_s5)
def c28_s7 : IC := 
  (.seq 
  (.reg [⟨some 17, (.mv (.t 0)), none, []⟩,
    ⟨some 18, (.call (.f 53) [(.t 17)]), none, []⟩,
    ⟨some 16, (.mv (.t 18)), none, []⟩,
    ⟨some 19, (.ex (.t 16) 0), none, []⟩,
    ⟨some 20, (.ex (.t 16) 1), none, []⟩,
    ⟨some 6, (.mv (.t 19)), none, []⟩,
    ⟨some 7, (.mv (.t 20)), none, []⟩] [0, 3, 7] []) c28_s6)
def c28 : IC := 
  (.seq 
  (.reg [⟨some 3, (.bx (.t 1)), none, []⟩,
    ⟨some 4, (.mv (.c (.i .i64 0))), none, []⟩,
    ⟨some 5, (.mv (.c (.i .i64 0))), none, []⟩] [0, 3] []) c28_s7)
def f28 : IF := ⟨c28, 2, [(.t 4), (.t 5)]⟩
def c28_k0 {R : Type} (H : Hk R) (Y : Yt R) (dp : Nat) (K : Ex → Env → Mem → Option R) : Ex → Env → Mem → Option R := (kBlk 4 (kSeq (fun env mem k => evC H Y c28_s1 dp env mem k) K))
def c28_k2 {R : Type} (H : Hk R) (Y : Yt R) (dp : Nat) (K : Ex → Env → Mem → Option R) : Ex → Env → Mem → Option R := (kBlk 2 (kBlk 1 (kSeq (fun env mem k => evC H Y c28_s3 dp env mem k) K)))
def c28_k1 {R : Type} (H : Hk R) (Y : Yt R) (dp : Nat) (K : Ex → Env → Mem → Option R) : Ex → Env → Mem → Option R := (kBlk 0 (kSeq (fun env mem k => evC H Y c28_s2 dp env mem k) K))

/- glidepath/glidepathref04.Dot -/
def c29_s0 : IC := .ret
def c29_s1 : IC := 
  (.seq 
  (.reg [⟨some 5, (.ixp 3 1 (.t 2) (.c (.i .i64 0))), none, []⟩,
    ⟨some 6, (.ld 1 false (.t 5)), none, []⟩,
    ⟨some 7, (.ixp 3 1 (.t 3) (.c (.i .i64 0))), none, []⟩,
    ⟨some 8, (.ld 1 false (.t 7)), none, []⟩,
    ⟨some 9, (.bin .mul false [] (.t 6) (.t 8)), none, []⟩,
    ⟨some 10, (.ixp 3 1 (.t 2) (.c (.i .i64 1))), none, []⟩,
    ⟨some 11, (.ld 1 false (.t 10)), none, []⟩,
    ⟨some 12, (.ixp 3 1 (.t 3) (.c (.i .i64 1))), none, []⟩,
    ⟨some 13, (.ld 1 false (.t 12)), none, []⟩,
    ⟨some 14, (.bin .mul false [] (.t 11) (.t 13)), none, []⟩,
    ⟨some 15, (.bin .add false [] (.t 9) (.t 14)), none, []⟩,
    ⟨some 16, (.ixp 3 1 (.t 2) (.c (.i .i64 2))), none, []⟩,
    ⟨some 17, (.ld 1 false (.t 16)), none, []⟩,
    ⟨some 18, (.ixp 3 1 (.t 3) (.c (.i .i64 2))), none, []⟩,
    ⟨some 19, (.ld 1 false (.t 18)), none, []⟩,
    ⟨some 20, (.bin .mul false [] (.t 17) (.t 19)), none, []⟩,
    ⟨some 21, (.bin .add false [] (.t 15) (.t 20)), none, []⟩,
    ⟨some 4, (.mv (.t 21)), none, []⟩] [4] [2, 3]) c29_s0)
def c29 : IC := 
  (.seq 
  (.reg [⟨some 2, (.bx (.t 0)), none, []⟩,
    ⟨some 3, (.bx (.t 1)), none, []⟩,
    ⟨some 4, (.mv (.c (.i .i64 0))), none, []⟩] [2, 3] []) c29_s1)
def f29 : IF := ⟨c29, 2, [(.t 4)]⟩

/- glidepath/wind.ResidualOf -/
def c30_s0 : IC := .ret
def c30_s1 : IC := 
  (.seq 
  (.reg [⟨some 98, (.ld 2 true (.t 15)), none, []⟩,
    ⟨none, (.st 2 (.t 2) (.t 98)), none, []⟩,
    ⟨some 3, (.mv (.c (.i .i64 0))), none, []⟩] [2, 3] [15]) c30_s0)
def c30_s2 : IC := 
  (.seq 
  (.seq 
  (.reg [⟨some 89, (.fa 0 (.t 15)), none, []⟩,
    ⟨some 90, (.ld 1 false (.t 89)), none, []⟩,
    ⟨some 91, (.bin .gtr false [] (.t 90) (.c (.i .i64 1000000000))), none, []⟩,
    ⟨some 92, (.mv (.t 91)), none, []⟩,
    ⟨some 93, (.fa 1 (.t 15)), some (92, false), []⟩,
    ⟨some 94, (.ld 1 false (.t 93)), some (92, false), []⟩,
    ⟨some 95, (.bin .gtr false [] (.t 94) (.c (.i .i64 1000000000))), some (92, false), []⟩,
    ⟨some 96, (.pick (.t 92) (.c (.b true)) (.t 95)), none, []⟩] [2, 15, 96] []) 
  (.cond (.t 96) 
    (.seq 
    (.reg [⟨some 97, (.bd [(.i .i64 0), (.i .i64 0)] []), none, []⟩,
      ⟨none, (.st 2 (.t 2) (.t 97)), none, []⟩,
      ⟨some 3, (.mv (.c (.i .i64 8))), none, []⟩] [2, 3] [15]) .ret) .skip)) c30_s1)
def c30_s3 : IC := 
  (.seq 
  (.reg [⟨some 83, (.mv (.t 10)), none, []⟩,
    ⟨some 84, (.fa 0 (.t 6)), none, []⟩,
    ⟨some 85, (.ld 9 true (.t 84)), none, []⟩,
    ⟨some 86, (.call (.f 69) [(.t 85)]), none, []⟩,
    ⟨some 87, (.bin .mul false [] (.c (.i .i64 4)) (.t 86)), none, []⟩,
    ⟨some 88, (.call (.f 70) [(.t 83), (.t 87)]), none, []⟩,
    ⟨some 15, (.al [(.i .i64 0), (.i .i64 0)]), none, []⟩,
    ⟨none, (.st 2 (.t 15) (.t 88)), none, []⟩] [2, 15] [6]) c30_s2)
def c30_s4 : IC := 
  (.reg [⟨some 82, (.bin .add false [] (.t 58) (.c (.i .i64 1))), none, []⟩,
    ⟨some 58, (.mv (.t 82)), none, []⟩] [2, 6, 10, 57, 58] [])
def c30_s5 : IC := 
    (.reg [⟨some 76, (.mv (.t 10)), none, []⟩,
      ⟨some 77, (.mv (.t 12)), none, []⟩,
      ⟨some 78, (.ld 9 true (.t 13)), none, []⟩,
      ⟨some 79, (.call (.f 69) [(.t 78)]), none, []⟩,
      ⟨some 80, (.bin .mul false [] (.t 77) (.t 79)), none, []⟩,
      ⟨some 81, (.bin .sub false [] (.t 76) (.t 80)), none, []⟩,
      ⟨some 10, (.mv (.t 81)), none, []⟩] [2, 6, 10, 57, 58] [13])
def c30_b1 : IC := 
  (.seq 
  (.reg [⟨some 65, (.bin .lss false [] (.t 64) (.c (.i .i64 3))), none, []⟩] [2, 6, 10, 11, 12, 13, 57, 58, 64, 65] []) 
  (.seq 
  (.cond (.t 65) .skip (.exit 4)) 
  (.seq 
  (.block 5 
    (.seq 
    (.reg [⟨some 66, (.mv (.t 64)), none, []⟩,
      ⟨some 14, (.mv (.t 66)), none, []⟩] [2, 6, 10, 11, 12, 13, 14, 57, 58, 64] []) 
    (.dreg [⟨some 67, (.mv (.t 14)), none, []⟩,
      ⟨some 68, (.mv (.t 11)), none, []⟩,
      ⟨some 69, (.mv (.t 14)), none, []⟩,
      ⟨some 70, (.fa 9 (.t 6)), none, []⟩,
      ⟨some 71, (.ixp 3 1 (.t 70) (.t 69)), none, []⟩,
      ⟨some 72, (.ld 1 false (.t 71)), none, []⟩,
      ⟨some 73, (.ixp 3 3 (.t 13) (.t 67)), none, []⟩,
      ⟨some 74, (.ixp 3 1 (.t 73) (.t 68)), none, []⟩,
      ⟨none, (.st 1 (.t 74) (.t 72)), none, []⟩] [[], [], [], [], [2, 3], [2, 3, 4], [0], [0, 1, 2, 3, 4, 5, 6], [0, 1, 2, 3, 4, 5, 6, 7]] [2, 6, 10, 11, 12, 13, 57, 58, 64] []))) 
  (.reg [⟨some 75, (.bin .add false [] (.t 64) (.c (.i .i64 1))), none, []⟩,
    ⟨some 64, (.mv (.t 75)), none, []⟩] [2, 6, 10, 11, 12, 13, 57, 58, 64] []))))
def c30_b0 : IC := 
  (.seq 
  (.reg [⟨some 59, (.bin .lss false [] (.t 58) (.c (.i .i64 3))), none, []⟩] [2, 6, 10, 57, 58, 59] []) 
  (.seq 
  (.cond (.t 59) .skip (.exit 2)) 
  (.seq 
  (.block 3 
    (.seq 
    (.reg [⟨some 60, (.mv (.t 58)), none, []⟩,
      ⟨some 61, (.ixv 3 1 false (.t 57) (.t 58)), none, []⟩,
      ⟨some 11, (.mv (.t 60)), none, []⟩,
      ⟨some 12, (.mv (.t 61)), none, []⟩] [2, 6, 10, 11, 12, 57, 58] []) 
    (.seq 
    (.reg [⟨some 62, (.fa 0 (.t 6)), none, []⟩,
      ⟨some 63, (.ld 9 true (.t 62)), none, []⟩,
      ⟨some 13, (.al [(.i .i64 0), (.i .i64 0), (.i .i64 0), (.i .i64 0), (.i .i64 0), (.i .i64 0), (.i .i64 0), (.i .i64 0), (.i .i64 0)]), none, []⟩,
      ⟨none, (.st 9 (.t 13) (.t 63)), none, []⟩] [2, 6, 10, 11, 12, 13, 57, 58] []) 
    (.seq 
    (.seq 
    (.reg [⟨some 64, (.mv (.c (.i .i64 0))), none, []⟩] [2, 6, 10, 11, 12, 13, 57, 58, 64] []) 
    (.block 4 (.loop c30_b1))) c30_s5)))) c30_s4)))
def c30_s6 : IC := 
  (.seq 
  (.seq 
  (.reg [⟨some 56, (.fa 9 (.t 6)), none, []⟩,
    ⟨some 57, (.ld 3 true (.t 56)), none, []⟩,
    ⟨some 58, (.mv (.c (.i .i64 0))), none, []⟩] [2, 6, 10, 57, 58] []) 
  (.block 2 (.loop c30_b0))) c30_s3)
def c30_s7 : IC := 
  (.seq 
  (.reg [⟨some 51, (.mv (.t 7)), none, []⟩,
    ⟨some 52, (.fa 0 (.t 6)), none, []⟩,
    ⟨some 53, (.ld 9 true (.t 52)), none, []⟩,
    ⟨some 54, (.call (.f 69) [(.t 53)]), none, []⟩,
    ⟨some 55, (.bin .mul false [] (.t 51) (.t 54)), none, []⟩,
    ⟨some 10, (.mv (.t 55)), none, []⟩] [2, 6, 10] []) c30_s6)
def c30_b2 : IC := 
  (.seq 
  (.reg [⟨some 30, (.bin .lss false [] (.t 29) (.t 28)), none, []⟩] [2, 6, 7, 27, 28, 29, 30] []) 
  (.seq 
  (.cond (.t 30) .skip (.exit 0)) 
  (.seq 
  (.block 1 
    (.seq 
    (.reg [⟨some 31, (.ixs 5 (.t 27) (.t 29)), none, []⟩,
      ⟨some 32, (.ld 5 true (.t 31)), none, []⟩,
      ⟨some 9, (.al [(.i .i64 0), (.i .i64 0), (.i .i64 0), (.i .i64 0), (.i .i64 0)]), none, []⟩,
      ⟨none, (.st 5 (.t 9) (.t 32)), none, []⟩] [2, 6, 7, 9, 27, 28, 29] []) 
    (.reg [⟨some 33, (.mv (.t 7)), none, []⟩,
      ⟨some 34, (.fa 3 (.t 9)), none, []⟩,
      ⟨some 35, (.fa 0 (.t 34)), none, []⟩,
      ⟨some 36, (.ld 1 false (.t 35)), none, []⟩,
      ⟨some 37, (.fa 3 (.t 9)), none, []⟩,
      ⟨some 38, (.fa 1 (.t 37)), none, []⟩,
      ⟨some 39, (.ld 1 false (.t 38)), none, []⟩,
      ⟨some 40, (.bin .add false [] (.t 36) (.t 39)), none, []⟩,
      ⟨some 41, (.fa 3 (.t 9)), none, []⟩,
      ⟨some 42, (.fa 0 (.t 41)), none, []⟩,
      ⟨some 43, (.ld 1 false (.t 42)), none, []⟩,
      ⟨some 44, (.fa 3 (.t 9)), none, []⟩,
      ⟨some 45, (.fa 1 (.t 44)), none, []⟩,
      ⟨some 46, (.ld 1 false (.t 45)), none, []⟩,
      ⟨some 47, (.bin .add false [] (.t 43) (.t 46)), none, []⟩,
      ⟨some 48, (.bin .mul false [] (.t 40) (.t 47)), none, []⟩,
      ⟨some 49, (.bin .add false [] (.t 33) (.t 48)), none, []⟩,
      ⟨some 7, (.mv (.t 49)), none, []⟩] [2, 6, 7, 27, 28, 29] [9]))) 
  (.reg [⟨some 50, (.bin .add false [] (.t 29) (.c (.i .i64 1))), none, []⟩,
    ⟨some 29, (.mv (.t 50)), none, []⟩] [2, 6, 7, 27, 28, 29] []))))
def c30_s8 : IC := 
  (.seq 
  (.seq 
  (.reg [⟨some 27, (.mv (.t 0)), none, []⟩,
    ⟨some 28, (.len false (.t 27)), none, []⟩,
    ⟨some 29, (.mv (.c (.i .i64 0))), none, []⟩] [2, 6, 7, 27, 28, 29] []) 
  (.block 0 (.loop c30_b2))) c30_s7)
def c30_s9 : IC := 
  (.seq 
  (.reg [⟨some 7, (.mv (.c (.i .i64 0))), none, []⟩] [0, 2, 6, 7] []) c30_s8)
def c30_s10 : IC := 
  (.seq 
  (.reg [⟨some 25, (.mv (.t 4)), none, []⟩,
    ⟨some 26, (.call (.f 65) [(.t 25)]), none, []⟩,
    ⟨some 6, (.al [(.i .i64 0), (.i .i64 0), (.i .i64 0), (.i .i64 0), (.i .i64 0), (.i .i64 0), (.i .i64 0), (.i .i64 0), (.i .i64 0), (.i .i64 0), (.i .i64 0), (.i .i64 0)]), none, []⟩,
    ⟨none, (.st 12 (.t 6) (.t 26)), none, []⟩] [0, 2, 6] []) c30_s9)
def c30_s11 : IC := 
  (.seq 
  (.seq 
  (.reg [⟨some 21, (.mv (.t 5)), none, []⟩,
    ⟨some 22, (.bin .neq false [1] (.t 21) (.c (.i .i64 0))), none, []⟩] [0, 2, 4, 5, 22] []) 
  (.cond (.t 22) 
    (.seq 
    (.reg [⟨some 23, (.bd [(.i .i64 0), (.i .i64 0)] []), none, []⟩,
      ⟨some 24, (.mv (.t 5)), none, []⟩,
      ⟨none, (.st 2 (.t 2) (.t 23)), none, []⟩,
      ⟨some 3, (.mv (.t 24)), none, []⟩] [2, 3] []) .ret) .skip)) c30_s10)
def c30_s12 : IC := 
  (.seq 
  (.reg [⟨some 17, (.mv (.t 0)), none, []⟩,
    ⟨some 18, (.call (.f 53) [(.t 17)]), none, []⟩,
    ⟨some 16, (.mv (.t 18)), none, []⟩,
    ⟨some 19, (.ex (.t 16) 0), none, []⟩,
    ⟨some 20, (.ex (.t 16) 1), none, []⟩,
    ⟨some 4, (.mv (.t 19)), none, []⟩,
    ⟨some 5, (.mv (.t 20)), none, []⟩] [0, 2, 4, 5] []) c30_s11)
def c30 : IC := 
  (.seq 
  (.reg [⟨some 2, (.al [(.i .i64 0), (.i .i64 0)]), none, []⟩,
    ⟨some 3, (.mv (.c (.i .i64 0))), none, []⟩] [0, 2] []) c30_s12)
def f30 : IF := ⟨c30, 1, [(.c 2 2 true), (.t 3)]⟩
def c30_k1 {R : Type} (H : Hk R) (Y : Yt R) (dp : Nat) (K : Ex → Env → Mem → Option R) : Ex → Env → Mem → Option R := (kBlk 4 (kSeq (fun env mem k => evC H Y c30_s5 dp env mem k) (kBlk 3 (kSeq (fun env mem k => evC H Y c30_s4 dp env mem k) K))))
def c30_k0 {R : Type} (H : Hk R) (Y : Yt R) (dp : Nat) (K : Ex → Env → Mem → Option R) : Ex → Env → Mem → Option R := (kBlk 2 (kSeq (fun env mem k => evC H Y c30_s3 dp env mem k) K))
def c30_k2 {R : Type} (H : Hk R) (Y : Yt R) (dp : Nat) (K : Ex → Env → Mem → Option R) : Ex → Env → Mem → Option R := (kBlk 0 (kSeq (fun env mem k => evC H Y c30_s7 dp env mem k) K))

/- glidepath/glidepathbase.IsSmall -/
def c31_s0 : IC := .ret
def c31_s1 : IC := 
  (.seq 
  (.reg [⟨some 3, (.fa 0 (.t 1)), none, []⟩,
    ⟨some 4, (.ld 1 false (.t 3)), none, []⟩,
    ⟨some 5, (.call (.f 26) [(.t 4), (.c (.i .i64 (-1000000000))), (.c (.i .i64 1000000000))]), none, []⟩,
    ⟨some 6, (.mv (.t 5)), none, []⟩,
    ⟨some 7, (.fa 1 (.t 1)), some (6, true), []⟩,
    ⟨some 8, (.ld 1 false (.t 7)), some (6, true), []⟩,
    ⟨some 9, (.call (.f 26) [(.t 8), (.c (.i .i64 1)), (.c (.i .i64 1000000000))]), some (6, true), []⟩,
    ⟨some 10, (.pick (.t 6) (.t 9) (.c (.b false))), none, []⟩,
    ⟨some 2, (.mv (.t 10)), none, []⟩] [2] [1]) c31_s0)
def c31 : IC := 
  (.seq 
  (.reg [⟨some 1, (.bx (.t 0)), none, []⟩,
    ⟨some 2, (.mv (.c (.b false))), none, []⟩] [1] []) c31_s1)
def f31 : IF := ⟨c31, 1, [(.t 2)]⟩

/- glidepath/wind.HeadwindIn -/
def c32_s0 : IC := .ret
def c32_s1 : IC := 
  (.seq 
  (.dreg [⟨some 18, (.fa 0 (.t 6)), none, []⟩,
    ⟨some 19, (.fa 0 (.t 18)), none, []⟩,
    ⟨some 20, (.ld 1 false (.t 19)), none, []⟩,
    ⟨some 21, (.fa 0 (.t 6)), none, []⟩,
    ⟨some 22, (.fa 1 (.t 21)), none, []⟩,
    ⟨some 23, (.ld 1 false (.t 22)), none, []⟩,
    ⟨some 24, (.call (.f 72) [(.t 20), (.t 23)]), none, []⟩,
    ⟨some 25, (.fa 2 (.t 6)), none, []⟩,
    ⟨some 26, (.fa 0 (.t 25)), none, []⟩,
    ⟨some 27, (.ld 1 false (.t 26)), none, []⟩,
    ⟨some 28, (.fa 2 (.t 6)), none, []⟩,
    ⟨some 29, (.fa 1 (.t 28)), none, []⟩,
    ⟨some 30, (.ld 1 false (.t 29)), none, []⟩,
    ⟨some 31, (.call (.f 73) [(.t 27), (.t 30)]), none, []⟩,
    ⟨some 32, (.bd [(.i .i64 0), (.i .i64 0)] [(0, 1, (.t 24)), (1, 1, (.t 31))]), none, []⟩,
    ⟨none, (.st 2 (.t 4) (.t 32)), none, []⟩,
    ⟨some 5, (.mv (.c (.i .i64 0))), none, []⟩] [[], [0], [0, 1], [], [3], [3, 4], [0, 1, 2, 3, 4, 5], [], [7], [7, 8], [], [10], [10, 11], [0, 1, 2, 3, 4, 5, 6, 7, 8, 9, 10, 11, 12], [0, 1, 2, 3, 4, 5, 6, 7, 8, 9, 10, 11, 12, 13], [0, 1, 2, 3, 4, 5, 6, 7, 8, 9, 10, 11, 12, 13, 14], [0, 1, 2, 3, 4, 5, 6, 7, 8, 9, 10, 11, 12, 13, 14, 15]] [4, 5] [6]) c32_s0)
def c32_s2 : IC := 
  (.seq 
  (.seq 
  (.reg [⟨some 14, (.mv (.t 7)), none, []⟩,
    ⟨some 15, (.bin .neq false [1] (.t 14) (.c (.i .i64 0))), none, []⟩] [4, 6, 7, 15] []) 
  (.cond (.t 15) 
    (.seq 
    (.reg [⟨some 16, (.bd [(.i .i64 0), (.i .i64 0)] []), none, []⟩,
      ⟨some 17, (.mv (.t 7)), none, []⟩,
      ⟨none, (.st 2 (.t 4) (.t 16)), none, []⟩,
      ⟨some 5, (.mv (.t 17)), none, []⟩] [4, 5] [6]) .ret) .skip)) c32_s1)
def c32_s3 : IC := 
  (.seq 
  (.reg [⟨some 9, (.mv (.t 0)), none, []⟩,
    ⟨some 10, (.ld 3 true (.t 3)), none, []⟩,
    ⟨some 11, (.call (.f 71) [(.t 9), (.t 10)]), none, []⟩,
    ⟨some 8, (.mv (.t 11)), none, []⟩,
    ⟨some 12, (.ex (.t 8) 0), none, []⟩,
    ⟨some 13, (.ex (.t 8) 1), none, []⟩,
    ⟨some 6, (.al [(.i .i64 0), (.i .i64 0), (.i .i64 0), (.i .i64 0)]), none, []⟩,
    ⟨none, (.st 4 (.t 6) (.t 12)), none, []⟩,
    ⟨some 7, (.mv (.t 13)), none, []⟩] [4, 6, 7] [3]) c32_s2)
def c32 : IC := 
  (.seq 
  (.reg [⟨some 3, (.bx (.t 1)), none, []⟩,
    ⟨some 4, (.al [(.i .i64 0), (.i .i64 0)]), none, []⟩,
    ⟨some 5, (.mv (.c (.i .i64 0))), none, []⟩] [0, 3, 4] []) c32_s3)
def f32 : IF := ⟨c32, 2, [(.c 4 2 true), (.t 5)]⟩

/- glidepath/glidepathlaw04.Readings -/
def c33_s0 : IC := .ret
def c33_s1 : IC := 
  (.seq 
  (.reg [⟨some 1, (.bd [(.i .i64 0), (.i .i64 0), (.i .i64 0)] [(0, 1, (.c (.i .i64 1))), (1, 1, (.c (.i .i64 0))), (2, 1, (.c (.i .i64 0)))]), none, []⟩,
    ⟨some 2, (.bd [(.i .i64 0), (.i .i64 0)] [(0, 1, (.c (.i .i64 3))), (1, 1, (.c (.i .i64 5)))]), none, []⟩,
    ⟨some 3, (.bd [(.i .i64 0), (.i .i64 0), (.i .i64 0), (.i .i64 0), (.i .i64 0)] [(0, 3, (.t 1)), (3, 2, (.t 2))]), none, []⟩,
    ⟨some 4, (.bd [(.i .i64 0), (.i .i64 0), (.i .i64 0)] [(0, 1, (.c (.i .i64 0))), (1, 1, (.c (.i .i64 1))), (2, 1, (.c (.i .i64 0)))]), none, []⟩,
    ⟨some 5, (.bd [(.i .i64 0), (.i .i64 0), (.i .i64 0), (.i .i64 0), (.i .i64 0)] [(0, 3, (.t 4))]), none, []⟩,
    ⟨some 6, (.bd [(.i .i64 0), (.i .i64 0), (.i .i64 0)] [(0, 1, (.c (.i .i64 0))), (1, 1, (.c (.i .i64 0))), (2, 1, (.c (.i .i64 1)))]), none, []⟩,
    ⟨some 7, (.bd [(.i .i64 0), (.i .i64 0)] [(1, 1, (.c (.i .i64 2)))]), none, []⟩,
    ⟨some 8, (.bd [(.i .i64 0), (.i .i64 0), (.i .i64 0), (.i .i64 0), (.i .i64 0)] [(0, 3, (.t 6)), (3, 2, (.t 7))]), none, []⟩,
    ⟨some 9, (.bsl (.prod (.prod (.int .i64) (.prod (.int .i64) (.int .i64))) (.prod (.int .i64) (.int .i64))) false [(.t 3), (.t 5), (.t 8)]), none, []⟩,
    ⟨some 0, (.mv (.t 9)), none, []⟩] [0] []) c33_s0)
def c33 : IC := 
  (.seq 
  (.reg [⟨some 0, (.mv (.c (.sl (.prod (.prod (.int .i64) (.prod (.int .i64) (.int .i64))) (.prod (.int .i64) (.int .i64))) [] false true))), none, []⟩] [] []) c33_s1)
def f33 : IF := ⟨c33, 0, [(.t 0)]⟩

/- glidepath/wind.UndecidedOf -/
def c34_s0 : IC := .ret
def c34_s1 : IC := 
  (.seq 
  (.reg [⟨some 81, (.mv (.t 8)), none, []⟩,
    ⟨some 2, (.mv (.t 81)), none, []⟩,
    ⟨some 3, (.mv (.c (.i .i64 0))), none, []⟩] [2, 3] []) c34_s0)
def c34_b0 : IC := 
  (.seq 
  (.reg [⟨some 37, (.bin .lss false [] (.t 36) (.c (.i .i64 3))), none, []⟩] [8, 9, 10, 36, 37] []) 
  (.seq 
  (.cond (.t 37) .skip (.exit 1)) 
  (.seq 
  (.block 2 
    (.seq 
    (.reg [⟨some 38, (.mv (.t 36)), none, []⟩,
      ⟨some 11, (.mv (.t 38)), none, []⟩] [8, 9, 10, 11, 36] []) 
    (.seq 
    (.reg [⟨some 39, (.mv (.t 11)), none, []⟩,
      ⟨some 40, (.mv (.t 10)), none, []⟩,
      ⟨some 41, (.bin .neq false [1] (.t 39) (.t 40)), none, []⟩] [8, 9, 10, 11, 36, 41] []) 
    (.cond (.t 41) 
      (.seq 
      (.reg [⟨some 12, (.al [(.i .i64 0), (.i .i64 0), (.i .i64 0)]), none, []⟩] [8, 9, 10, 11, 12, 36] []) 
      (.seq 
      (.dreg [⟨some 42, (.mv (.t 11)), none, []⟩,
        ⟨some 43, (.mv (.t 10)), none, []⟩,
        ⟨some 44, (.mv (.t 10)), none, []⟩,
        ⟨some 45, (.ixp 3 1 (.t 9) (.t 44)), none, []⟩,
        ⟨some 46, (.ld 1 false (.t 45)), none, []⟩,
        ⟨some 47, (.mv (.t 11)), none, []⟩,
        ⟨some 48, (.ixp 3 1 (.t 9) (.t 47)), none, []⟩,
        ⟨some 49, (.ld 1 false (.t 48)), none, []⟩,
        ⟨some 50, (.un .neg (.t 49)), none, []⟩,
        ⟨some 51, (.ixp 3 1 (.t 12) (.t 42)), none, []⟩,
        ⟨none, (.sta 1 (.t 51) (.t 46) [(.t 48)]), none, []⟩,
        ⟨some 52, (.ixp 3 1 (.t 12) (.t 43)), none, []⟩,
        ⟨none, (.st 1 (.t 52) (.t 50)), none, []⟩] [[], [], [], [2], [2, 3], [], [5], [5, 6], [5, 6, 7], [0, 2, 3, 4], [0, 2, 3, 4, 9], [0, 1, 2, 3, 4, 5, 6, 7, 8, 9, 10], [0, 1, 2, 3, 4, 5, 6, 7, 8, 9, 10, 11]] [8, 9, 10, 11, 12, 36] []) 
      (.reg [⟨some 53, (.mv (.t 8)), none, []⟩,
        ⟨some 54, (.ld 3 true (.t 12)), none, []⟩,
        ⟨some 55, (.mv (.t 11)), none, []⟩,
        ⟨some 56, (.call (.f 77) [(.t 54), (.t 55)]), none, []⟩,
        ⟨some 57, (.bsl (.prod (.int .i64) (.prod (.int .i64) (.int .i64))) false [(.t 56)]), none, []⟩,
        ⟨some 58, (.app (.prod (.int .i64) (.prod (.int .i64) (.int .i64))) 1466015503701 (.t 53) (.t 57)), none, []⟩,
        ⟨some 8, (.mv (.t 58)), none, []⟩] [8, 9, 10, 36] [12]))) .skip)))) 
  (.reg [⟨some 59, (.bin .add false [] (.t 36) (.c (.i .i64 1))), none, []⟩,
    ⟨some 36, (.mv (.t 59)), none, []⟩] [8, 9, 10, 36] []))))
def c34_s2 : IC := 
        (.reg [⟨some 75, (.mv (.t 8)), none, []⟩,
          ⟨some 76, (.ld 3 true (.t 13)), none, []⟩,
          ⟨some 77, (.mv (.t 14)), none, []⟩,
          ⟨some 78, (.call (.f 77) [(.t 76), (.t 77)]), none, []⟩,
          ⟨some 79, (.bsl (.prod (.int .i64) (.prod (.int .i64) (.int .i64))) false [(.t 78)]), none, []⟩,
          ⟨some 80, (.app (.prod (.int .i64) (.prod (.int .i64) (.int .i64))) 1466015503701 (.t 75) (.t 79)), none, []⟩,
          ⟨some 8, (.mv (.t 80)), none, []⟩] [8] [13])
def c34_b1 : IC := 
  (.seq 
  (.seq 
  (.reg [⟨some 69, (.mv (.t 14)), none, []⟩,
    ⟨some 70, (.ixp 3 1 (.t 13) (.t 69)), none, []⟩,
    ⟨some 71, (.ld 1 false (.t 70)), none, []⟩,
    ⟨some 72, (.bin .eql false [1] (.t 71) (.c (.i .i64 0))), none, []⟩] [8, 13, 14, 72] []) 
  (.cond (.t 72) .skip (.exit 3))) 
  (.block 4 
    (.reg [⟨some 73, (.mv (.t 14)), none, []⟩,
      ⟨some 74, (.bin .sub false [] (.t 73) (.c (.i .i64 1))), none, []⟩,
      ⟨some 14, (.mv (.t 74)), none, []⟩] [8, 13, 14] [])))
def c34_s3 : IC := 
  (.seq 
  (.seq 
  (.reg [⟨some 28, (.mv (.t 6)), none, []⟩] [7, 8, 28] []) 
  (.block 0 
    (.seq 
    (.reg [⟨some 30, (.bin .eql false [1] (.t 28) (.c (.i .i64 1))), none, []⟩,
      ⟨some 29, (.mv (.t 30)), none, []⟩] [7, 8, 28, 29] []) 
    (.cond (.t 29) 
      (.seq 
      (.reg [⟨some 31, (.mv (.t 7)), none, []⟩,
        ⟨some 32, (.ixs 3 (.t 31) (.c (.i .i64 0))), none, []⟩,
        ⟨some 33, (.ld 3 true (.t 32)), none, []⟩,
        ⟨some 9, (.al [(.i .i64 0), (.i .i64 0), (.i .i64 0)]), none, []⟩,
        ⟨none, (.st 3 (.t 9) (.t 33)), none, []⟩] [8, 9] []) 
      (.seq 
      (.reg [⟨some 34, (.sla (.int .i64) 3 (.t 9)), none, [9]⟩,
        ⟨some 35, (.call (.f 75) [(.t 34), (.f 76)]), none, []⟩,
        ⟨some 10, (.mv (.t 35)), none, []⟩] [8, 9, 10] []) 
      (.seq 
      (.reg [⟨some 36, (.mv (.c (.i .i64 0))), none, []⟩] [8, 9, 10, 36] []) 
      (.block 1 (.loop c34_b0))))) 
      (.seq 
      (.reg [⟨some 61, (.bin .eql false [1] (.t 28) (.c (.i .i64 2))), none, []⟩,
        ⟨some 60, (.mv (.t 61)), none, []⟩] [7, 8, 60] []) 
      (.cond (.t 60) 
        (.seq 
        (.dreg [⟨some 62, (.mv (.t 7)), none, []⟩,
          ⟨some 63, (.ixs 3 (.t 62) (.c (.i .i64 0))), none, []⟩,
          ⟨some 64, (.ld 3 true (.t 63)), none, []⟩,
          ⟨some 65, (.mv (.t 7)), none, []⟩,
          ⟨some 66, (.ixs 3 (.t 65) (.c (.i .i64 1))), none, []⟩,
          ⟨some 67, (.ld 3 true (.t 66)), none, []⟩,
          ⟨some 68, (.call (.f 78) [(.t 64), (.t 67)]), none, []⟩,
          ⟨some 13, (.al [(.i .i64 0), (.i .i64 0), (.i .i64 0)]), none, []⟩,
          ⟨none, (.st 3 (.t 13) (.t 68)), none, []⟩] [[], [0], [0, 1], [], [3], [3, 4], [0, 1, 2, 3, 4, 5], [], [0, 1, 2, 3, 4, 5, 6, 7]] [8, 13] []) 
        (.seq 
        (.reg [⟨some 14, (.mv (.c (.i .i64 2))), none, []⟩] [8, 13, 14] []) 
        (.seq 
        (.block 3 (.loop c34_b1)) c34_s2))) .skip)))))) c34_s1)
def c34_s4 : IC := 
  (.seq 
  (.reg [⟨some 8, (.mv (.c (.sl (.prod (.int .i64) (.prod (.int .i64) (.int .i64))) [] false true))), none, []⟩] [6, 7, 8] []) c34_s3)
def c34_s5 : IC := 
  (.seq 
  (.reg [⟨some 24, (.mv (.t 4)), none, []⟩,
    ⟨some 25, (.call (.f 74) [(.t 24)]), none, []⟩,
    ⟨some 23, (.mv (.t 25)), none, []⟩,
    ⟨some 26, (.ex (.t 23) 0), none, []⟩,
    ⟨some 27, (.ex (.t 23) 1), none, []⟩,
    ⟨some 6, (.mv (.t 26)), none, []⟩,
    ⟨some 7, (.mv (.t 27)), none, []⟩] [6, 7] []) c34_s4)
def c34_s6 : IC := 
  (.seq 
  (.seq 
  (.reg [⟨some 20, (.mv (.t 5)), none, []⟩,
    ⟨some 21, (.bin .neq false [1] (.t 20) (.c (.i .i64 0))), none, []⟩] [4, 5, 21] []) 
  (.cond (.t 21) 
    (.seq 
    (.reg [⟨some 22, (.mv (.t 5)), none, []⟩,
      ⟨some 2, (.mv (.c (.sl (.prod (.int .i64) (.prod (.int .i64) (.int .i64))) [] false true))), none, []⟩,
      ⟨some 3, (.mv (.t 22)), none, []⟩] [2, 3] []) .ret) .skip)) c34_s5)
def c34_s7 : IC := 
  (.seq 
  (.reg [⟨some 16, (.mv (.t 0)), none, []⟩,
    ⟨some 17, (.call (.f 55) [(.t 16)]), none, []⟩,
    ⟨some 15, (.mv (.t 17)), none, []⟩,
    ⟨some 18, (.ex (.t 15) 0), none, []⟩,
    ⟨some 19, (.ex (.t 15) 1), none, []⟩,
    ⟨some 4, (.mv (.t 18)), none, []⟩,
    ⟨some 5, (.mv (.t 19)), none, []⟩] [4, 5] []) c34_s6)
def c34 : IC := 
  (.seq 
  (.reg [⟨some 2, (.mv (.c (.sl (.prod (.int .i64) (.prod (.int .i64) (.int .i64))) [] false true))), none, []⟩,
    ⟨some 3, (.mv (.c (.i .i64 0))), none, []⟩] [0] []) c34_s7)
def f34 : IF := ⟨c34, 1, [(.t 2), (.t 3)]⟩
def c34_k0 {R : Type} (H : Hk R) (Y : Yt R) (dp : Nat) (K : Ex → Env → Mem → Option R) : Ex → Env → Mem → Option R := (kBlk 1 (kBlk 0 (kSeq (fun env mem k => evC H Y c34_s1 dp env mem k) K)))
def c34_k1 {R : Type} (H : Hk R) (Y : Yt R) (dp : Nat) (K : Ex → Env → Mem → Option R) : Ex → Env → Mem → Option R := (kBlk 3 (kSeq (fun env mem k => evC H Y c34_s2 dp env mem k) (kBlk 0 (kSeq (fun env mem k => evC H Y c34_s1 dp env mem k) K))))

/- glidepath/wind.StructureOf -/
def c35_s0 : IC := .ret
def c35_s1 : IC := 
  (.seq 
  (.reg [⟨some 30, (.fa 0 (.t 9)), none, []⟩,
    ⟨some 31, (.ld 2 true (.t 30)), none, []⟩,
    ⟨some 32, (.mv (.t 10)), none, []⟩,
    ⟨none, (.st 2 (.t 4) (.t 31)), none, []⟩,
    ⟨some 5, (.mv (.t 32)), none, []⟩] [4, 5] [9]) c35_s0)
def c35_s2 : IC := 
  (.seq 
  (.reg [⟨some 25, (.mv (.t 6)), none, []⟩,
    ⟨some 26, (.mv (.t 1)), none, []⟩,
    ⟨some 27, (.call (.f 79) [(.t 25), (.t 26)]), none, [22]⟩,
    ⟨some 24, (.mv (.t 27)), none, []⟩,
    ⟨some 28, (.ex (.t 24) 0), none, []⟩,
    ⟨some 29, (.ex (.t 24) 1), none, []⟩,
    ⟨some 9, (.al [(.i .i64 0), (.i .i64 0), (.i .i64 0), (.i .i64 0)]), none, []⟩,
    ⟨none, (.st 4 (.t 9) (.t 28)), none, []⟩,
    ⟨some 10, (.mv (.t 29)), none, []⟩] [4, 9, 10] []) c35_s1)
def c35_b0 : IC := 
  (.seq 
  (.reg [⟨some 14, (.bin .lss false [] (.t 13) (.t 12)), none, []⟩] [1, 4, 6, 11, 12, 13, 14] []) 
  (.seq 
  (.cond (.t 14) .skip (.exit 0)) 
  (.seq 
  (.block 1 
    (.seq 
    (.reg [⟨some 15, (.ixs 1 (.t 11) (.t 13)), none, []⟩,
      ⟨some 16, (.ld 1 false (.t 15)), none, []⟩,
      ⟨some 8, (.mv (.t 16)), none, []⟩] [1, 4, 6, 8, 11, 12, 13] []) 
    (.reg [⟨some 17, (.mv (.t 6)), none, []⟩,
      ⟨some 18, (.mv (.t 8)), none, []⟩,
      ⟨some 19, (.mv (.t 8)), none, []⟩,
      ⟨some 20, (.bd [(.i .i64 0), (.i .i64 0)] [(0, 1, (.t 18)), (1, 1, (.t 19))]), none, []⟩,
      ⟨some 21, (.bsl (.prod (.int .i64) (.int .i64)) false [(.t 20)]), none, []⟩,
      ⟨some 22, (.app (.prod (.int .i64) (.int .i64)) 2199023255552 (.t 17) (.t 21)), none, []⟩,
      ⟨some 6, (.mv (.t 22)), none, []⟩] [1, 4, 6, 11, 12, 13] []))) 
  (.reg [⟨some 23, (.bin .add false [] (.t 13) (.c (.i .i64 1))), none, []⟩,
    ⟨some 13, (.mv (.t 23)), none, []⟩] [1, 4, 6, 11, 12, 13] []))))
def c35_s3 : IC := 
  (.seq 
  (.seq 
  (.reg [⟨some 11, (.mv (.t 0)), none, []⟩,
    ⟨some 12, (.len false (.t 11)), none, []⟩,
    ⟨some 13, (.mv (.c (.i .i64 0))), none, []⟩] [1, 4, 6, 11, 12, 13] []) 
  (.block 0 (.loop c35_b0))) c35_s2)
def c35_s4 : IC := 
  (.seq 
  (.reg [⟨some 6, (.mv (.c (.sl (.prod (.int .i64) (.int .i64)) [] false true))), none, []⟩] [0, 1, 4, 6] []) c35_s3)
def c35 : IC := 
  (.seq 
  (.reg [⟨some 4, (.al [(.i .i64 0), (.i .i64 0)]), none, []⟩,
    ⟨some 5, (.mv (.c (.i .i64 0))), none, []⟩] [0, 1, 4] []) c35_s4)
def f35 : IF := ⟨c35, 2, [(.c 4 2 true), (.t 5)]⟩
def c35_k0 {R : Type} (H : Hk R) (Y : Yt R) (dp : Nat) (K : Ex → Env → Mem → Option R) : Ex → Env → Mem → Option R := (kBlk 0 (kSeq (fun env mem k => evC H Y c35_s2 dp env mem k) K))

/- glidepath/glidepathref04.SameProof -/
def c36_s0 : IC := .ret
def c36_s1 : IC := 
  (.seq 
  (.reg [⟨some 5, (.fa 0 (.t 2)), none, []⟩,
    ⟨some 6, (.ld 1 false (.t 5)), none, []⟩,
    ⟨some 7, (.fa 0 (.t 3)), none, []⟩,
    ⟨some 8, (.ld 1 false (.t 7)), none, []⟩,
    ⟨some 9, (.call (.f 80) [(.t 6), (.t 8)]), none, []⟩,
    ⟨some 10, (.mv (.t 9)), none, []⟩,
    ⟨some 11, (.fa 1 (.t 2)), some (10, true), []⟩,
    ⟨some 12, (.ld 1 false (.t 11)), some (10, true), []⟩,
    ⟨some 13, (.fa 1 (.t 3)), some (10, true), []⟩,
    ⟨some 14, (.ld 1 false (.t 13)), some (10, true), []⟩,
    ⟨some 15, (.call (.f 80) [(.t 12), (.t 14)]), some (10, true), []⟩,
    ⟨some 16, (.pick (.t 10) (.t 15) (.c (.b false))), none, []⟩,
    ⟨some 4, (.mv (.t 16)), none, []⟩] [4] [2, 3]) c36_s0)
def c36 : IC := 
  (.seq 
  (.reg [⟨some 2, (.bx (.t 0)), none, []⟩,
    ⟨some 3, (.bx (.t 1)), none, []⟩,
    ⟨some 4, (.mv (.c (.b false))), none, []⟩] [2, 3] []) c36_s1)
def f36 : IF := ⟨c36, 2, [(.t 4)]⟩

/- glidepath/glidepathref04.SameDirections -/
def c37_s0 : IC := .ret
def c37_s1 : IC := 
  (.seq 
  (.reg [⟨some 4, (.mv (.c (.b true))), none, []⟩] [4] []) c37_s0)
def c37_b0 : IC := 
  (.seq 
  (.seq 
  (.reg [⟨some 11, (.mv (.t 5)), none, []⟩,
    ⟨some 12, (.mv (.t 0)), none, []⟩,
    ⟨some 13, (.len false (.t 12)), none, []⟩,
    ⟨some 14, (.bin .lss false [] (.t 11) (.t 13)), none, []⟩] [0, 1, 5, 14] []) 
  (.cond (.t 14) .skip (.exit 0))) 
  (.seq 
  (.block 1 
    (.seq 
    (.dreg [⟨some 17, (.mv (.t 0)), none, []⟩,
      ⟨some 18, (.mv (.t 5)), none, []⟩,
      ⟨some 19, (.ixs 3 (.t 17) (.t 18)), none, []⟩,
      ⟨some 20, (.ld 3 true (.t 19)), none, []⟩,
      ⟨some 21, (.mv (.t 1)), none, []⟩,
      ⟨some 22, (.mv (.t 5)), none, []⟩,
      ⟨some 23, (.ixs 3 (.t 21) (.t 22)), none, []⟩,
      ⟨some 24, (.ld 3 true (.t 23)), none, []⟩,
      ⟨some 25, (.bin .neq true [1, 1, 1] (.t 20) (.t 24)), none, []⟩] [[], [], [0, 1], [0, 1, 2], [], [], [4, 5], [4, 5, 6], [0, 1, 2, 3, 4, 5, 6, 7]] [0, 1, 5, 25] []) 
    (.cond (.t 25) 
      (.seq 
      (.reg [⟨some 4, (.mv (.c (.b false))), none, []⟩] [4] []) .ret) .skip))) 
  (.reg [⟨some 15, (.mv (.t 5)), none, []⟩,
    ⟨some 16, (.bin .add false [] (.t 15) (.c (.i .i64 1))), none, []⟩,
    ⟨some 5, (.mv (.t 16)), none, []⟩] [0, 1, 5] [])))
def c37_s2 : IC := 
  (.seq 
  (.seq 
  (.reg [⟨some 5, (.mv (.c (.i .i64 0))), none, []⟩] [0, 1, 5] []) 
  (.block 0 (.loop c37_b0))) c37_s1)
def c37_s3 : IC := 
  (.seq 
  (.seq 
  (.reg [⟨some 6, (.mv (.t 0)), none, []⟩,
    ⟨some 7, (.len false (.t 6)), none, []⟩,
    ⟨some 8, (.mv (.t 1)), none, []⟩,
    ⟨some 9, (.len false (.t 8)), none, []⟩,
    ⟨some 10, (.bin .neq false [1] (.t 7) (.t 9)), none, []⟩] [0, 1, 10] []) 
  (.cond (.t 10) 
    (.seq 
    (.reg [⟨some 4, (.mv (.c (.b false))), none, []⟩] [4] []) .ret) .skip)) c37_s2)
def c37 : IC := 
  (.seq 
  (.reg [⟨some 4, (.mv (.c (.b false))), none, []⟩] [0, 1] []) c37_s3)
def f37 : IF := ⟨c37, 2, [(.t 4)]⟩
def c37_k0 {R : Type} (H : Hk R) (Y : Yt R) (dp : Nat) (K : Ex → Env → Mem → Option R) : Ex → Env → Mem → Option R := (kBlk 0 (kSeq (fun env mem k => evC H Y c37_s1 dp env mem k) K))

/- glidepath/glidepathref04.CheckProfile -/
def c38_s0 : IC := .ret
def c38_s1 : IC := 
  (.seq 
  (.reg [⟨some 2, (.mv (.c (.i .i64 0))), none, []⟩,
    ⟨some 3, (.mv (.c (.i .i64 0))), none, []⟩] [2, 3] []) c38_s0)
def c38_s2 : IC := 
  (.reg [⟨some 18, (.mv (.t 4)), none, []⟩,
    ⟨some 19, (.bin .add false [] (.t 18) (.c (.i .i64 1))), none, []⟩,
    ⟨some 4, (.mv (.t 19)), none, []⟩] [0, 4] [])
def c38_s3 : IC := 
    (.seq 
    (.dreg [⟨some 65, (.mv (.t 4)), none, []⟩,
      ⟨some 66, (.bin .gtr false [] (.t 65) (.c (.i .i64 0))), none, []⟩,
      ⟨some 67, (.mv (.t 66)), none, []⟩,
      ⟨some 68, (.mv (.t 0)), some (67, true), []⟩,
      ⟨some 69, (.mv (.t 4)), some (67, true), []⟩,
      ⟨some 70, (.ixs 7 (.t 68) (.t 69)), some (67, true), []⟩,
      ⟨some 71, (.fa 0 (.t 70)), some (67, true), []⟩,
      ⟨some 72, (.ld 1 false (.t 71)), some (67, true), []⟩,
      ⟨some 73, (.mv (.t 0)), some (67, true), []⟩,
      ⟨some 74, (.mv (.t 4)), some (67, true), []⟩,
      ⟨some 75, (.bin .sub false [] (.t 74) (.c (.i .i64 1))), some (67, true), []⟩,
      ⟨some 76, (.ixs 7 (.t 73) (.t 75)), some (67, true), []⟩,
      ⟨some 77, (.fa 0 (.t 76)), some (67, true), []⟩,
      ⟨some 78, (.ld 1 false (.t 77)), some (67, true), []⟩,
      ⟨some 79, (.bin .leq false [] (.t 72) (.t 78)), some (67, true), []⟩,
      ⟨some 80, (.pick (.t 67) (.t 79) (.c (.b false))), none, []⟩] [[], [0], [0, 1], [0, 1, 2], [0, 1, 2], [0, 1, 2, 3, 4], [0, 1, 2, 3, 4, 5], [0, 1, 2, 3, 4, 5, 6], [0, 1, 2], [0, 1, 2], [0, 1, 2, 9], [0, 1, 2, 8, 9, 10], [0, 1, 2, 8, 9, 10, 11], [0, 1, 2, 8, 9, 10, 11, 12], [0, 1, 2, 3, 4, 5, 6, 7, 8, 9, 10, 11, 12, 13], [0, 1, 2, 3, 4, 5, 6, 7, 8, 9, 10, 11, 12, 13, 14]] [0, 4, 80] [6]) 
    (.cond (.t 80) 
      (.seq 
      (.reg [⟨some 81, (.mv (.t 4)), none, []⟩,
        ⟨some 2, (.mv (.t 81)), none, []⟩,
        ⟨some 3, (.mv (.c (.i .i64 9))), none, []⟩] [2, 3] []) .ret) .skip))
def c38_b1 : IC := 
  (.seq 
  (.seq 
  (.reg [⟨some 36, (.mv (.t 7)), none, []⟩,
    ⟨some 37, (.bin .lss false [] (.t 36) (.c (.i .i64 3))), none, []⟩] [0, 4, 6, 7, 37] []) 
  (.cond (.t 37) .skip (.exit 2))) 
  (.seq 
  (.block 3 
    (.seq 
    (.seq 
    (.reg [⟨some 40, (.mv (.t 7)), none, []⟩,
      ⟨some 41, (.ixp 3 2 (.t 6) (.t 40)), none, []⟩,
      ⟨some 42, (.fa 0 (.t 41)), none, []⟩,
      ⟨some 43, (.ld 1 false (.t 42)), none, []⟩,
      ⟨some 44, (.call (.f 26) [(.t 43), (.c (.i .i64 (-100000))), (.c (.i .i64 100000))]), none, []⟩,
      ⟨some 45, (.un .not (.t 44)), none, []⟩,
      ⟨some 46, (.mv (.t 45)), none, []⟩,
      ⟨some 47, (.mv (.t 7)), some (46, false), []⟩,
      ⟨some 48, (.ixp 3 2 (.t 6) (.t 47)), some (46, false), []⟩,
      ⟨some 49, (.fa 1 (.t 48)), some (46, false), []⟩,
      ⟨some 50, (.ld 1 false (.t 49)), some (46, false), []⟩,
      ⟨some 51, (.call (.f 26) [(.t 50), (.c (.i .i64 (-100000))), (.c (.i .i64 100000))]), some (46, false), []⟩,
      ⟨some 52, (.un .not (.t 51)), some (46, false), []⟩,
      ⟨some 53, (.pick (.t 46) (.c (.b true)) (.t 52)), none, []⟩] [0, 4, 6, 7, 53] []) 
    (.cond (.t 53) 
      (.seq 
      (.reg [⟨some 54, (.mv (.t 4)), none, []⟩,
        ⟨some 2, (.mv (.t 54)), none, []⟩,
        ⟨some 3, (.mv (.c (.i .i64 2))), none, []⟩] [2, 3] [6]) .ret) .skip)) 
    (.seq 
    (.dreg [⟨some 55, (.mv (.t 7)), none, []⟩,
      ⟨some 56, (.ixp 3 2 (.t 6) (.t 55)), none, []⟩,
      ⟨some 57, (.fa 0 (.t 56)), none, []⟩,
      ⟨some 58, (.ld 1 false (.t 57)), none, []⟩,
      ⟨some 59, (.mv (.t 7)), none, []⟩,
      ⟨some 60, (.ixp 3 2 (.t 6) (.t 59)), none, []⟩,
      ⟨some 61, (.fa 1 (.t 60)), none, []⟩,
      ⟨some 62, (.ld 1 false (.t 61)), none, []⟩,
      ⟨some 63, (.bin .gtr false [] (.t 58) (.t 62)), none, []⟩] [[], [0], [0, 1], [0, 1, 2], [], [4], [4, 5], [4, 5, 6], [0, 1, 2, 3, 4, 5, 6, 7]] [0, 4, 6, 7, 63] []) 
    (.cond (.t 63) 
      (.seq 
      (.reg [⟨some 64, (.mv (.t 4)), none, []⟩,
        ⟨some 2, (.mv (.t 64)), none, []⟩,
        ⟨some 3, (.mv (.c (.i .i64 9))), none, []⟩] [2, 3] [6]) .ret) .skip)))) 
  (.reg [⟨some 38, (.mv (.t 7)), none, []⟩,
    ⟨some 39, (.bin .add false [] (.t 38) (.c (.i .i64 1))), none, []⟩,
    ⟨some 7, (.mv (.t 39)), none, []⟩] [0, 4, 6, 7] [])))
def c38_b0 : IC := 
  (.seq 
  (.seq 
  (.reg [⟨some 14, (.mv (.t 4)), none, []⟩,
    ⟨some 15, (.mv (.t 0)), none, []⟩,
    ⟨some 16, (.len false (.t 15)), none, []⟩,
    ⟨some 17, (.bin .lss false [] (.t 14) (.t 16)), none, []⟩] [0, 4, 17] []) 
  (.cond (.t 17) .skip (.exit 0))) 
  (.seq 
  (.block 1 
    (.seq 
    (.seq 
    (.reg [⟨some 20, (.mv (.t 0)), none, []⟩,
      ⟨some 21, (.mv (.t 4)), none, []⟩,
      ⟨some 22, (.ixs 7 (.t 20) (.t 21)), none, []⟩,
      ⟨some 23, (.fa 0 (.t 22)), none, []⟩,
      ⟨some 24, (.ld 1 false (.t 23)), none, []⟩,
      ⟨some 25, (.call (.f 81) [(.t 24)]), none, []⟩,
      ⟨some 5, (.mv (.t 25)), none, []⟩] [0, 4, 5] []) 
    (.seq 
    (.reg [⟨some 26, (.mv (.t 5)), none, []⟩,
      ⟨some 27, (.bin .neq false [1] (.t 26) (.c (.i .i64 0))), none, []⟩] [0, 4, 5, 27] []) 
    (.cond (.t 27) 
      (.seq 
      (.reg [⟨some 28, (.mv (.t 4)), none, []⟩,
        ⟨some 29, (.mv (.t 5)), none, []⟩,
        ⟨some 2, (.mv (.t 28)), none, []⟩,
        ⟨some 3, (.mv (.t 29)), none, []⟩] [2, 3] []) .ret) .skip))) 
    (.seq 
    (.reg [⟨some 30, (.mv (.t 0)), none, []⟩,
      ⟨some 31, (.mv (.t 4)), none, []⟩,
      ⟨some 32, (.ixs 7 (.t 30) (.t 31)), none, []⟩,
      ⟨some 33, (.fa 1 (.t 32)), none, []⟩,
      ⟨some 34, (.ld 6 true (.t 33)), none, []⟩,
      ⟨some 35, (.call (.f 82) [(.t 34)]), none, []⟩,
      ⟨some 6, (.al [(.i .i64 0), (.i .i64 0), (.i .i64 0), (.i .i64 0), (.i .i64 0), (.i .i64 0)]), none, []⟩,
      ⟨none, (.st 6 (.t 6) (.t 35)), none, []⟩] [0, 4, 6] []) 
    (.seq 
    (.seq 
    (.reg [⟨some 7, (.mv (.c (.i .i64 0))), none, []⟩] [0, 4, 6, 7] []) 
    (.block 2 (.loop c38_b1))) c38_s3)))) c38_s2))
def c38_s4 : IC := 
  (.seq 
  (.seq 
  (.reg [⟨some 4, (.mv (.c (.i .i64 0))), none, []⟩] [0, 4] []) 
  (.block 0 (.loop c38_b0))) c38_s1)
def c38_s5 : IC := 
  (.seq 
  (.seq 
  (.reg [⟨some 11, (.mv (.t 0)), none, []⟩,
    ⟨some 12, (.len false (.t 11)), none, []⟩,
    ⟨some 13, (.bin .gtr false [] (.t 12) (.c (.i .i64 12))), none, []⟩] [0, 13] []) 
  (.cond (.t 13) 
    (.seq 
    (.reg [⟨some 2, (.mv (.c (.i .i64 0))), none, []⟩,
      ⟨some 3, (.mv (.c (.i .i64 8))), none, []⟩] [2, 3] []) .ret) .skip)) c38_s4)
def c38_s6 : IC := 
  (.seq 
  (.seq 
  (.reg [⟨some 8, (.mv (.t 0)), none, []⟩,
    ⟨some 9, (.len false (.t 8)), none, []⟩,
    ⟨some 10, (.bin .eql false [1] (.t 9) (.c (.i .i64 0))), none, []⟩] [0, 10] []) 
  (.cond (.t 10) 
    (.seq 
    (.reg [⟨some 2, (.mv (.c (.i .i64 0))), none, []⟩,
      ⟨some 3, (.mv (.c (.i .i64 10))), none, []⟩] [2, 3] []) .ret) .skip)) c38_s5)
def c38 : IC := 
  (.seq 
  (.reg [⟨some 2, (.mv (.c (.i .i64 0))), none, []⟩,
    ⟨some 3, (.mv (.c (.i .i64 0))), none, []⟩] [0] []) c38_s6)
def f38 : IF := ⟨c38, 1, [(.t 2), (.t 3)]⟩
def c38_k1 {R : Type} (H : Hk R) (Y : Yt R) (dp : Nat) (K : Ex → Env → Mem → Option R) : Ex → Env → Mem → Option R := (kBlk 2 (kSeq (fun env mem k => evC H Y c38_s3 dp env mem k) (kBlk 1 (kSeq (fun env mem k => evC H Y c38_s2 dp env mem k) K))))
def c38_k0 {R : Type} (H : Hk R) (Y : Yt R) (dp : Nat) (K : Ex → Env → Mem → Option R) : Ex → Env → Mem → Option R := (kBlk 0 (kSeq (fun env mem k => evC H Y c38_s1 dp env mem k) K))

/- glidepath/wind.CheckProfile -/
def c39_s0 : IC := .ret
def c39_s1 : IC := 
  (.seq 
  (.reg [⟨some 4, (.ld 1 false (.t 1)), none, []⟩,
    ⟨some 5, (.mf 84 [(.t 1)]), none, []⟩,
    ⟨some 6, (.call (.f 83) [(.t 4), (.c (.i .i64 12)), (.t 5)]), none, []⟩,
    ⟨some 7, (.ex (.t 6) 0), none, []⟩,
    ⟨some 8, (.ex (.t 6) 1), none, []⟩,
    ⟨some 2, (.mv (.t 7)), none, []⟩,
    ⟨some 3, (.mv (.t 8)), none, []⟩] [2, 3] [1]) c39_s0)
def c39 : IC := 
  (.seq 
  (.reg [⟨some 1, (.bx (.t 0)), none, []⟩,
    ⟨some 2, (.mv (.c (.i .i64 0))), none, []⟩,
    ⟨some 3, (.mv (.c (.i .i64 0))), none, []⟩] [1] []) c39_s1)
def f39 : IF := ⟨c39, 1, [(.t 2), (.t 3)]⟩

/- glidepath/wind.first -/
def c40_s0 : IC := .ret
def c40_s1 : IC := 
  (.seq 
  (.reg [⟨some 2, (.mv (.c (.i .i64 0))), none, []⟩] [2] []) c40_s0)
def c40_b0 : IC := 
  (.seq 
  (.reg [⟨some 8, (.bin .lss false [] (.t 7) (.t 6)), none, []⟩] [5, 6, 7, 8] []) 
  (.seq 
  (.cond (.t 8) .skip (.exit 0)) 
  (.seq 
  (.block 1 
    (.seq 
    (.reg [⟨some 9, (.ixs 1 (.t 5) (.t 7)), none, []⟩,
      ⟨some 10, (.ld 1 false (.t 9)), none, []⟩,
      ⟨some 4, (.mv (.t 10)), none, []⟩] [4, 5, 6, 7] []) 
    (.seq 
    (.reg [⟨some 11, (.mv (.t 4)), none, []⟩,
      ⟨some 12, (.bin .neq false [1] (.t 11) (.c (.i .i64 0))), none, []⟩] [4, 5, 6, 7, 12] []) 
    (.cond (.t 12) 
      (.seq 
      (.reg [⟨some 13, (.mv (.t 4)), none, []⟩,
        ⟨some 2, (.mv (.t 13)), none, []⟩] [2] []) .ret) .skip)))) 
  (.reg [⟨some 14, (.bin .add false [] (.t 7) (.c (.i .i64 1))), none, []⟩,
    ⟨some 7, (.mv (.t 14)), none, []⟩] [5, 6, 7] []))))
def c40_s2 : IC := 
  (.seq 
  (.seq 
  (.reg [⟨some 5, (.mv (.t 0)), none, []⟩,
    ⟨some 6, (.len false (.t 5)), none, []⟩,
    ⟨some 7, (.mv (.c (.i .i64 0))), none, []⟩] [5, 6, 7] []) 
  (.block 0 (.loop c40_b0))) c40_s1)
def c40 : IC := 
  (.seq 
  (.reg [⟨some 2, (.mv (.c (.i .i64 0))), none, []⟩] [0] []) c40_s2)
def f40 : IF := ⟨c40, 1, [(.t 2)]⟩
def c40_k0 {R : Type} (H : Hk R) (Y : Yt R) (dp : Nat) (K : Ex → Env → Mem → Option R) : Ex → Env → Mem → Option R := (kBlk 0 (kSeq (fun env mem k => evC H Y c40_s1 dp env mem k) K))

/- glidepath/wind.heightErr -/
def c41_s0 : IC := .ret
def c41_s1 : IC := 
  (.seq 
  (.reg [⟨some 3, (.mv (.t 0)), none, []⟩,
    ⟨some 4, (.call (.f 58) [(.t 3), (.c (.i .i64 0)), (.c (.i .i64 20000))]), none, []⟩,
    ⟨some 5, (.call (.f 43) [(.t 4), (.c (.i .i64 2))]), none, []⟩,
    ⟨some 2, (.mv (.t 5)), none, []⟩] [2] []) c41_s0)
def c41 : IC := 
  (.seq 
  (.reg [⟨some 2, (.mv (.c (.i .i64 0))), none, []⟩] [0] []) c41_s1)
def f41 : IF := ⟨c41, 1, [(.t 2)]⟩

/- glidepath/wind.at -/
def c42_s0 : IC := .ret
def c42_s1 : IC := 
  (.seq 
  (.dreg [⟨some 61, (.fa 1 (.t 7)), none, []⟩,
    ⟨some 62, (.fa 0 (.t 61)), none, []⟩,
    ⟨some 63, (.ld 2 true (.t 62)), none, []⟩,
    ⟨some 64, (.fa 1 (.t 8)), none, []⟩,
    ⟨some 65, (.fa 0 (.t 64)), none, []⟩,
    ⟨some 66, (.ld 2 true (.t 65)), none, []⟩,
    ⟨some 67, (.mv (.t 9)), none, []⟩,
    ⟨some 68, (.mv (.t 10)), none, []⟩,
    ⟨some 69, (.call (.f 88) [(.t 63), (.t 66), (.t 67), (.t 68)]), none, []⟩,
    ⟨some 70, (.fa 1 (.t 7)), none, []⟩,
    ⟨some 71, (.fa 2 (.t 70)), none, []⟩,
    ⟨some 72, (.ld 2 true (.t 71)), none, []⟩,
    ⟨some 73, (.fa 1 (.t 8)), none, []⟩,
    ⟨some 74, (.fa 2 (.t 73)), none, []⟩,
    ⟨some 75, (.ld 2 true (.t 74)), none, []⟩,
    ⟨some 76, (.mv (.t 9)), none, []⟩,
    ⟨some 77, (.mv (.t 10)), none, []⟩,
    ⟨some 78, (.call (.f 88) [(.t 72), (.t 75), (.t 76), (.t 77)]), none, []⟩,
    ⟨some 79, (.fa 1 (.t 7)), none, []⟩,
    ⟨some 80, (.fa 4 (.t 79)), none, []⟩,
    ⟨some 81, (.ld 2 true (.t 80)), none, []⟩,
    ⟨some 82, (.fa 1 (.t 8)), none, []⟩,
    ⟨some 83, (.fa 4 (.t 82)), none, []⟩,
    ⟨some 84, (.ld 2 true (.t 83)), none, []⟩,
    ⟨some 85, (.mv (.t 9)), none, []⟩,
    ⟨some 86, (.mv (.t 10)), none, []⟩,
    ⟨some 87, (.call (.f 88) [(.t 81), (.t 84), (.t 85), (.t 86)]), none, []⟩,
    ⟨some 88, (.bd [(.i .i64 0), (.i .i64 0), (.i .i64 0), (.i .i64 0), (.i .i64 0), (.i .i64 0)] [(0, 2, (.t 69)), (2, 2, (.t 78)), (4, 2, (.t 87))]), none, []⟩,
    ⟨none, (.st 6 (.t 4) (.t 88)), none, []⟩,
    ⟨some 5, (.mv (.c (.b true))), none, []⟩] [[], [0], [0, 1], [], [3], [3, 4], [], [], [0, 1, 2, 3, 4, 5, 6, 7], [], [9], [9, 10], [], [12], [12, 13], [], [], [0, 1, 2, 3, 4, 5, 6, 7, 8, 9, 10, 11, 12, 13, 14, 15, 16], [], [18], [18, 19], [], [21], [21, 22], [], [], [0, 1, 2, 3, 4, 5, 6, 7, 8, 9, 10, 11, 12, 13, 14, 15, 16, 17, 18, 19, 20, 21, 22, 23, 24, 25], [0, 1, 2, 3, 4, 5, 6, 7, 8, 9, 10, 11, 12, 13, 14, 15, 16, 17, 18, 19, 20, 21, 22, 23, 24, 25, 26], [0, 1, 2, 3, 4, 5, 6, 7, 8, 9, 10, 11, 12, 13, 14, 15, 16, 17, 18, 19, 20, 21, 22, 23, 24, 25, 26, 27], [0, 1, 2, 3, 4, 5, 6, 7, 8, 9, 10, 11, 12, 13, 14, 15, 16, 17, 18, 19, 20, 21, 22, 23, 24, 25, 26, 27, 28]] [4, 5] [7, 8]) c42_s0)
def c42_s2 : IC := 
  (.seq 
  (.dreg [⟨some 52, (.ld 1 false (.t 3)), none, []⟩,
    ⟨some 53, (.fa 0 (.t 7)), none, []⟩,
    ⟨some 54, (.ld 1 false (.t 53)), none, []⟩,
    ⟨some 55, (.bin .sub false [] (.t 52) (.t 54)), none, []⟩,
    ⟨some 56, (.fa 0 (.t 8)), none, []⟩,
    ⟨some 57, (.ld 1 false (.t 56)), none, []⟩,
    ⟨some 58, (.fa 0 (.t 7)), none, []⟩,
    ⟨some 59, (.ld 1 false (.t 58)), none, []⟩,
    ⟨some 60, (.bin .sub false [] (.t 57) (.t 59)), none, []⟩,
    ⟨some 9, (.mv (.t 55)), none, []⟩,
    ⟨some 10, (.mv (.t 60)), none, []⟩] [[], [], [1], [0, 1, 2], [], [4], [], [6], [4, 5, 6, 7], [0, 1, 2, 3], [0, 1, 2, 3, 4, 5, 6, 7, 8, 9]] [4, 7, 8, 9, 10] [3]) c42_s1)
def c42_s3 : IC := 
  (.seq 
  (.dreg [⟨some 43, (.mv (.t 0)), none, []⟩,
    ⟨some 44, (.mv (.t 6)), none, []⟩,
    ⟨some 45, (.bin .sub false [] (.t 44) (.c (.i .i64 1))), none, []⟩,
    ⟨some 46, (.ixs 7 (.t 43) (.t 45)), none, []⟩,
    ⟨some 47, (.ld 7 true (.t 46)), none, []⟩,
    ⟨some 48, (.mv (.t 0)), none, []⟩,
    ⟨some 49, (.mv (.t 6)), none, []⟩,
    ⟨some 50, (.ixs 7 (.t 48) (.t 49)), none, []⟩,
    ⟨some 51, (.ld 7 true (.t 50)), none, []⟩,
    ⟨some 7, (.al [(.i .i64 0), (.i .i64 0), (.i .i64 0), (.i .i64 0), (.i .i64 0), (.i .i64 0), (.i .i64 0)]), none, []⟩,
    ⟨some 8, (.al [(.i .i64 0), (.i .i64 0), (.i .i64 0), (.i .i64 0), (.i .i64 0), (.i .i64 0), (.i .i64 0)]), none, []⟩,
    ⟨none, (.sta 7 (.t 7) (.t 47) [(.t 50)]), none, []⟩,
    ⟨none, (.st 7 (.t 8) (.t 51)), none, []⟩] [[], [], [1], [0, 1, 2], [0, 1, 2, 3], [], [], [5, 6], [5, 6, 7], [], [], [0, 1, 2, 3, 4, 9, 10], [0, 1, 2, 3, 4, 5, 6, 7, 8, 9, 10, 11]] [3, 4, 7, 8] []) c42_s2)
def c42_s4 : IC := 
  (.seq 
  (.block 0 
    (.seq 
    (.dreg [⟨some 15, (.mv (.t 6)), none, []⟩,
      ⟨some 16, (.bin .lss false [] (.t 15) (.c (.i .i64 0))), none, []⟩,
      ⟨some 17, (.mv (.t 16)), none, []⟩,
      ⟨some 18, (.mv (.t 6)), some (17, false), []⟩,
      ⟨some 19, (.bin .eql false [1] (.t 18) (.c (.i .i64 0))), some (17, false), []⟩,
      ⟨some 20, (.mv (.t 19)), some (17, false), []⟩,
      ⟨some 21, (.mv (.t 0)), some (20, true), []⟩,
      ⟨some 22, (.ixs 7 (.t 21) (.c (.i .i64 0))), some (20, true), []⟩,
      ⟨some 23, (.fa 0 (.t 22)), some (20, true), []⟩,
      ⟨some 24, (.ld 1 false (.t 23)), some (20, true), []⟩,
      ⟨some 25, (.ld 1 false (.t 3)), some (20, true), []⟩,
      ⟨some 26, (.bin .gtr false [] (.t 24) (.t 25)), some (20, true), []⟩,
      ⟨some 27, (.pick (.t 20) (.t 26) (.c (.b false))), some (17, false), []⟩,
      ⟨some 28, (.pick (.t 17) (.c (.b true)) (.t 27)), none, []⟩,
      ⟨some 14, (.mv (.t 28)), none, []⟩] [[], [0], [0, 1], [0, 1, 2], [0, 1, 2, 3], [0, 1, 2, 3, 4], [0, 1, 2, 3, 4, 5], [0, 1, 2, 3, 4, 5, 6], [0, 1, 2, 3, 4, 5, 6, 7], [0, 1, 2, 3, 4, 5, 6, 7, 8], [0, 1, 2, 3, 4, 5], [0, 1, 2, 3, 4, 5, 6, 7, 8, 9, 10], [0, 1, 2, 3, 4, 5, 6, 7, 8, 9, 10, 11], [0, 1, 2, 3, 4, 5, 6, 7, 8, 9, 10, 11, 12], [0, 1, 2, 3, 4, 5, 6, 7, 8, 9, 10, 11, 12, 13]] [0, 3, 4, 6, 14] []) 
    (.cond (.t 14) 
      (.seq 
      (.reg [⟨some 29, (.bd [(.i .i64 0), (.i .i64 0), (.i .i64 0), (.i .i64 0), (.i .i64 0), (.i .i64 0)] []), none, []⟩,
        ⟨none, (.st 6 (.t 4) (.t 29)), none, []⟩,
        ⟨some 5, (.mv (.c (.b false))), none, []⟩] [4, 5] [3]) .ret) 
      (.seq 
      (.dreg [⟨some 31, (.mv (.t 0)), none, []⟩,
        ⟨some 32, (.mv (.t 6)), none, []⟩,
        ⟨some 33, (.ixs 7 (.t 31) (.t 32)), none, []⟩,
        ⟨some 34, (.fa 0 (.t 33)), none, []⟩,
        ⟨some 35, (.ld 1 false (.t 34)), none, []⟩,
        ⟨some 36, (.ld 1 false (.t 3)), none, []⟩,
        ⟨some 37, (.bin .eql false [1] (.t 35) (.t 36)), none, []⟩,
        ⟨some 30, (.mv (.t 37)), none, []⟩] [[], [], [0, 1], [0, 1, 2], [0, 1, 2, 3], [], [0, 1, 2, 3, 4, 5], [0, 1, 2, 3, 4, 5, 6]] [0, 3, 4, 6, 30] []) 
      (.cond (.t 30) 
        (.seq 
        (.reg [⟨some 38, (.mv (.t 0)), none, []⟩,
          ⟨some 39, (.mv (.t 6)), none, []⟩,
          ⟨some 40, (.ixs 7 (.t 38) (.t 39)), none, []⟩,
          ⟨some 41, (.fa 1 (.t 40)), none, []⟩,
          ⟨some 42, (.ld 6 true (.t 41)), none, []⟩,
          ⟨none, (.st 6 (.t 4) (.t 42)), none, []⟩,
          ⟨some 5, (.mv (.c (.b true))), none, []⟩] [4, 5] [3]) .ret) .skip))))) c42_s3)
def c42_s5 : IC := 
  (.seq 
  (.reg [⟨some 11, (.mv (.t 0)), none, []⟩,
    ⟨some 12, (.mf 87 [(.t 3)]), none, []⟩,
    ⟨some 13, (.call (.f 86) [(.t 11), (.t 12)]), none, []⟩,
    ⟨some 6, (.mv (.t 13)), none, []⟩] [0, 3, 4, 6] []) c42_s4)
def c42 : IC := 
  (.seq 
  (.reg [⟨some 3, (.bx (.t 1)), none, []⟩,
    ⟨some 4, (.al [(.i .i64 0), (.i .i64 0), (.i .i64 0), (.i .i64 0), (.i .i64 0), (.i .i64 0)]), none, []⟩,
    ⟨some 5, (.mv (.c (.b false))), none, []⟩] [0, 3, 4] []) c42_s5)
def f42 : IF := ⟨c42, 2, [(.c 4 6 true), (.t 5)]⟩

/- glidepath/wind.unless -/
def c43_s0 : IC := .ret
def c43_s1 : IC := 
  (.seq 
  (.reg [⟨some 6, (.mv (.t 1)), none, []⟩,
    ⟨some 4, (.mv (.t 6)), none, []⟩] [4] []) c43_s0)
def c43_s2 : IC := 
  (.seq 
  (.seq 
  (.reg [⟨some 5, (.mv (.t 0)), none, []⟩] [1, 5] []) 
  (.cond (.t 5) 
    (.seq 
    (.reg [⟨some 4, (.mv (.c (.i .i64 0))), none, []⟩] [4] []) .ret) .skip)) c43_s1)
def c43 : IC := 
  (.seq 
  (.reg [⟨some 4, (.mv (.c (.i .i64 0))), none, []⟩] [0, 1] []) c43_s2)
def f43 : IF := ⟨c43, 2, [(.t 4)]⟩

/- glidepath/wind.minus -/
def c44_s0 : IC := .ret
def c44_s1 : IC := 
  (.seq 
  (.reg [⟨some 5, (.fa 0 (.t 2)), none, []⟩,
    ⟨some 6, (.ld 1 false (.t 5)), none, []⟩,
    ⟨some 7, (.fa 1 (.t 3)), none, []⟩,
    ⟨some 8, (.ld 1 false (.t 7)), none, []⟩,
    ⟨some 9, (.bin .sub false [] (.t 6) (.t 8)), none, []⟩,
    ⟨some 10, (.fa 1 (.t 2)), none, []⟩,
    ⟨some 11, (.ld 1 false (.t 10)), none, []⟩,
    ⟨some 12, (.fa 0 (.t 3)), none, []⟩,
    ⟨some 13, (.ld 1 false (.t 12)), none, []⟩,
    ⟨some 14, (.bin .sub false [] (.t 11) (.t 13)), none, []⟩,
    ⟨some 15, (.bd [(.i .i64 0), (.i .i64 0)] [(0, 1, (.t 9)), (1, 1, (.t 14))]), none, []⟩,
    ⟨none, (.st 2 (.t 4) (.t 15)), none, []⟩] [4] [2, 3]) c44_s0)
def c44 : IC := 
  (.seq 
  (.reg [⟨some 2, (.bx (.t 0)), none, []⟩,
    ⟨some 3, (.bx (.t 1)), none, []⟩,
    ⟨some 4, (.al [(.i .i64 0), (.i .i64 0)]), none, []⟩] [2, 3, 4] []) c44_s1)
def f44 : IF := ⟨c44, 2, [(.c 4 2 true)]⟩

/- glidepath/glidepathref04.CheckReadings -/
def c45_s0 : IC := .ret
def c45_s1 : IC := 
  (.seq 
  (.reg [⟨some 2, (.mv (.c (.i .i64 0))), none, []⟩,
    ⟨some 3, (.mv (.c (.i .i64 0))), none, []⟩] [2, 3] []) c45_s0)
def c45_b0 : IC := 
  (.seq 
  (.seq 
  (.reg [⟨some 12, (.mv (.t 4)), none, []⟩,
    ⟨some 13, (.mv (.t 0)), none, []⟩,
    ⟨some 14, (.len false (.t 13)), none, []⟩,
    ⟨some 15, (.bin .lss false [] (.t 12) (.t 14)), none, []⟩] [0, 4, 15] []) 
  (.cond (.t 15) .skip (.exit 0))) 
  (.seq 
  (.block 1 
    (.seq 
    (.seq 
    (.reg [⟨some 18, (.mv (.t 0)), none, []⟩,
      ⟨some 19, (.mv (.t 4)), none, []⟩,
      ⟨some 20, (.ixs 5 (.t 18) (.t 19)), none, []⟩,
      ⟨some 21, (.fa 0 (.t 20)), none, []⟩,
      ⟨some 22, (.ld 3 true (.t 21)), none, []⟩,
      ⟨some 23, (.call (.f 89) [(.t 22)]), none, []⟩,
      ⟨some 5, (.mv (.t 23)), none, []⟩] [0, 4, 5] []) 
    (.seq 
    (.reg [⟨some 24, (.mv (.t 5)), none, []⟩,
      ⟨some 25, (.bin .neq false [1] (.t 24) (.c (.i .i64 0))), none, []⟩] [0, 4, 5, 25] []) 
    (.cond (.t 25) 
      (.seq 
      (.reg [⟨some 26, (.mv (.t 4)), none, []⟩,
        ⟨some 27, (.mv (.t 5)), none, []⟩,
        ⟨some 2, (.mv (.t 26)), none, []⟩,
        ⟨some 3, (.mv (.t 27)), none, []⟩] [2, 3] []) .ret) .skip))) 
    (.seq 
    (.seq 
    (.reg [⟨some 28, (.mv (.t 0)), none, []⟩,
      ⟨some 29, (.mv (.t 4)), none, []⟩,
      ⟨some 30, (.ixs 5 (.t 28) (.t 29)), none, []⟩,
      ⟨some 31, (.fa 3 (.t 30)), none, []⟩,
      ⟨some 32, (.fa 0 (.t 31)), none, []⟩,
      ⟨some 33, (.ld 1 false (.t 32)), none, []⟩,
      ⟨some 34, (.call (.f 26) [(.t 33), (.c (.i .i64 (-10000))), (.c (.i .i64 10000))]), none, []⟩,
      ⟨some 35, (.un .not (.t 34)), none, []⟩,
      ⟨some 36, (.mv (.t 35)), none, []⟩,
      ⟨some 37, (.mv (.t 0)), some (36, false), []⟩,
      ⟨some 38, (.mv (.t 4)), some (36, false), []⟩,
      ⟨some 39, (.ixs 5 (.t 37) (.t 38)), some (36, false), []⟩,
      ⟨some 40, (.fa 3 (.t 39)), some (36, false), []⟩,
      ⟨some 41, (.fa 1 (.t 40)), some (36, false), []⟩,
      ⟨some 42, (.ld 1 false (.t 41)), some (36, false), []⟩,
      ⟨some 43, (.call (.f 26) [(.t 42), (.c (.i .i64 (-10000))), (.c (.i .i64 10000))]), some (36, false), []⟩,
      ⟨some 44, (.un .not (.t 43)), some (36, false), []⟩,
      ⟨some 45, (.pick (.t 36) (.c (.b true)) (.t 44)), none, []⟩] [0, 4, 45] []) 
    (.cond (.t 45) 
      (.seq 
      (.reg [⟨some 46, (.mv (.t 4)), none, []⟩,
        ⟨some 2, (.mv (.t 46)), none, []⟩,
        ⟨some 3, (.mv (.c (.i .i64 2))), none, []⟩] [2, 3] []) .ret) .skip)) 
    (.seq 
    (.dreg [⟨some 47, (.mv (.t 0)), none, []⟩,
      ⟨some 48, (.mv (.t 4)), none, []⟩,
      ⟨some 49, (.ixs 5 (.t 47) (.t 48)), none, []⟩,
      ⟨some 50, (.fa 3 (.t 49)), none, []⟩,
      ⟨some 51, (.fa 0 (.t 50)), none, []⟩,
      ⟨some 52, (.ld 1 false (.t 51)), none, []⟩,
      ⟨some 53, (.mv (.t 0)), none, []⟩,
      ⟨some 54, (.mv (.t 4)), none, []⟩,
      ⟨some 55, (.ixs 5 (.t 53) (.t 54)), none, []⟩,
      ⟨some 56, (.fa 3 (.t 55)), none, []⟩,
      ⟨some 57, (.fa 1 (.t 56)), none, []⟩,
      ⟨some 58, (.ld 1 false (.t 57)), none, []⟩,
      ⟨some 59, (.bin .gtr false [] (.t 52) (.t 58)), none, []⟩] [[], [], [0, 1], [0, 1, 2], [0, 1, 2, 3], [0, 1, 2, 3, 4], [], [], [6, 7], [6, 7, 8], [6, 7, 8, 9], [6, 7, 8, 9, 10], [0, 1, 2, 3, 4, 5, 6, 7, 8, 9, 10, 11]] [0, 4, 59] []) 
    (.cond (.t 59) 
      (.seq 
      (.reg [⟨some 60, (.mv (.t 4)), none, []⟩,
        ⟨some 2, (.mv (.t 60)), none, []⟩,
        ⟨some 3, (.mv (.c (.i .i64 9))), none, []⟩] [2, 3] []) .ret) .skip))))) 
  (.reg [⟨some 16, (.mv (.t 4)), none, []⟩,
    ⟨some 17, (.bin .add false [] (.t 16) (.c (.i .i64 1))), none, []⟩,
    ⟨some 4, (.mv (.t 17)), none, []⟩] [0, 4] [])))
def c45_s2 : IC := 
  (.seq 
  (.seq 
  (.reg [⟨some 4, (.mv (.c (.i .i64 0))), none, []⟩] [0, 4] []) 
  (.block 0 (.loop c45_b0))) c45_s1)
def c45_s3 : IC := 
  (.seq 
  (.seq 
  (.reg [⟨some 9, (.mv (.t 0)), none, []⟩,
    ⟨some 10, (.len false (.t 9)), none, []⟩,
    ⟨some 11, (.bin .gtr false [] (.t 10) (.c (.i .i64 6))), none, []⟩] [0, 11] []) 
  (.cond (.t 11) 
    (.seq 
    (.reg [⟨some 2, (.mv (.c (.i .i64 0))), none, []⟩,
      ⟨some 3, (.mv (.c (.i .i64 8))), none, []⟩] [2, 3] []) .ret) .skip)) c45_s2)
def c45_s4 : IC := 
  (.seq 
  (.seq 
  (.reg [⟨some 6, (.mv (.t 0)), none, []⟩,
    ⟨some 7, (.len false (.t 6)), none, []⟩,
    ⟨some 8, (.bin .eql false [1] (.t 7) (.c (.i .i64 0))), none, []⟩] [0, 8] []) 
  (.cond (.t 8) 
    (.seq 
    (.reg [⟨some 2, (.mv (.c (.i .i64 0))), none, []⟩,
      ⟨some 3, (.mv (.c (.i .i64 10))), none, []⟩] [2, 3] []) .ret) .skip)) c45_s3)
def c45 : IC := 
  (.seq 
  (.reg [⟨some 2, (.mv (.c (.i .i64 0))), none, []⟩,
    ⟨some 3, (.mv (.c (.i .i64 0))), none, []⟩] [0] []) c45_s4)
def f45 : IF := ⟨c45, 1, [(.t 2), (.t 3)]⟩
def c45_k0 {R : Type} (H : Hk R) (Y : Yt R) (dp : Nat) (K : Ex → Env → Mem → Option R) : Ex → Env → Mem → Option R := (kBlk 0 (kSeq (fun env mem k => evC H Y c45_s1 dp env mem k) K))

/- glidepath/glidepathbase.Gcd -/
def c46_s0 : IC := .ret
def c46_s1 : IC := 
  (.seq 
  (.reg [⟨some 11, (.mv (.t 0)), none, []⟩,
    ⟨some 12, (.call (.f 90) [(.t 11)]), none, []⟩,
    ⟨some 4, (.mv (.t 12)), none, []⟩] [4] []) c46_s0)
def c46_b0 : IC := 
  (.seq 
  (.seq 
  (.reg [⟨some 5, (.mv (.t 1)), none, []⟩,
    ⟨some 6, (.bin .neq false [1] (.t 5) (.c (.i .i64 0))), none, []⟩] [0, 1, 6] []) 
  (.cond (.t 6) .skip (.exit 0))) 
  (.block 1 
    (.dreg [⟨some 7, (.mv (.t 1)), none, []⟩,
      ⟨some 8, (.mv (.t 0)), none, []⟩,
      ⟨some 9, (.mv (.t 1)), none, []⟩,
      ⟨some 10, (.bin .rem false [] (.t 8) (.t 9)), none, []⟩,
      ⟨some 0, (.mv (.t 7)), none, []⟩,
      ⟨some 1, (.mv (.t 10)), none, []⟩] [[], [], [], [1, 2], [0, 1], [0, 1, 2, 3, 4]] [0, 1] [])))
def c46_s2 : IC := 
  (.seq 
  (.block 0 (.loop c46_b0)) c46_s1)
def c46 : IC := 
  (.seq 
  (.reg [⟨some 4, (.mv (.c (.i .i64 0))), none, []⟩] [0, 1] []) c46_s2)
def f46 : IF := ⟨c46, 2, [(.t 4)]⟩
def c46_k0 {R : Type} (H : Hk R) (Y : Yt R) (dp : Nat) (K : Ex → Env → Mem → Option R) : Ex → Env → Mem → Option R := (kBlk 0 (kSeq (fun env mem k => evC H Y c46_s1 dp env mem k) K))

/- glidepath/wind.CheckReadings -/
def c47_s0 : IC := .ret
def c47_s1 : IC := 
  (.seq 
  (.reg [⟨some 4, (.mv (.t 0)), none, []⟩,
    ⟨some 5, (.call (.f 91) [(.t 4), (.c (.i .i64 6)), (.f 92)]), none, []⟩,
    ⟨some 6, (.ex (.t 5) 0), none, []⟩,
    ⟨some 7, (.ex (.t 5) 1), none, []⟩,
    ⟨some 2, (.mv (.t 6)), none, []⟩,
    ⟨some 3, (.mv (.t 7)), none, []⟩] [2, 3] []) c47_s0)
def c47 : IC := 
  (.seq 
  (.reg [⟨some 2, (.mv (.c (.i .i64 0))), none, []⟩,
    ⟨some 3, (.mv (.c (.i .i64 0))), none, []⟩] [0] []) c47_s1)
def f47 : IF := ⟨c47, 1, [(.t 2), (.t 3)]⟩

/- glidepath/wind.sets -/
def c48_s0 : IC := .ret
def c48_s1 : IC := 
  (.seq 
  (.reg [⟨some 5, (.mf 94 [(.t 2), (.t 3)]), none, []⟩,
    ⟨some 4, (.mv (.t 5)), none, []⟩] [4] []) c48_s0)
def c48 : IC := 
  (.seq 
  (.reg [⟨some 2, (.bx (.t 0)), none, []⟩,
    ⟨some 3, (.bx (.t 1)), none, []⟩,
    ⟨some 4, (.mv (.c .fz)), none, []⟩] [2, 3] []) c48_s1)
def f48 : IF := ⟨c48, 2, [(.t 4)]⟩

/- glidepath/wind.relation -/
def c49_s0 : IC := .ret
def c49_s1 : IC := 
  (.seq 
  (.reg [⟨some 145, (.mv (.t 4)), none, []⟩,
    ⟨some 2, (.mv (.t 145)), none, []⟩,
    ⟨some 3, (.mv (.c (.b true))), none, []⟩] [2, 3] []) c49_s0)
def c49_b0 : IC := 
  (.seq 
  (.reg [⟨some 135, (.bin .lss false [] (.t 134) (.t 133)), none, []⟩] [4, 11, 133, 134, 135] []) 
  (.seq 
  (.cond (.t 135) .skip (.exit 5)) 
  (.seq 
  (.block 6 
    (.seq 
    (.reg [⟨some 136, (.mv (.t 134)), none, []⟩,
      ⟨some 13, (.mv (.t 136)), none, []⟩] [4, 11, 13, 133, 134] []) 
    (.reg [⟨some 137, (.mv (.t 4)), none, []⟩,
      ⟨some 138, (.mv (.t 13)), none, []⟩,
      ⟨some 139, (.ixs 1 (.t 137) (.t 138)), none, []⟩,
      ⟨some 140, (.ld 1 false (.t 139)), none, []⟩,
      ⟨some 141, (.mv (.t 11)), none, []⟩,
      ⟨some 142, (.bin .quo false [] (.t 140) (.t 141)), none, []⟩,
      ⟨some 143, (.ixs 1 (.t 137) (.t 138)), none, []⟩,
      ⟨none, (.st 1 (.t 143) (.t 142)), none, []⟩] [4, 11, 133, 134] []))) 
  (.reg [⟨some 144, (.bin .add false [] (.t 134) (.c (.i .i64 1))), none, []⟩,
    ⟨some 134, (.mv (.t 144)), none, []⟩] [4, 11, 133, 134] []))))
def c49_s2 : IC := 
  (.seq 
  (.seq 
  (.reg [⟨some 132, (.mv (.t 4)), none, []⟩,
    ⟨some 133, (.len false (.t 132)), none, []⟩,
    ⟨some 134, (.mv (.c (.i .i64 0))), none, []⟩] [4, 11, 133, 134] []) 
  (.block 5 (.loop c49_b0))) c49_s1)
def c49_s3 : IC := 
  (.seq 
  (.seq 
  (.reg [⟨some 123, (.mv (.t 4)), none, []⟩,
    ⟨some 124, (.call (.f 75) [(.t 123), (.f 101)]), none, []⟩,
    ⟨some 12, (.mv (.t 124)), none, []⟩] [4, 11, 12] []) 
  (.seq 
  (.reg [⟨some 125, (.mv (.t 4)), none, []⟩,
    ⟨some 126, (.mv (.t 12)), none, []⟩,
    ⟨some 127, (.ixs 1 (.t 125) (.t 126)), none, []⟩,
    ⟨some 128, (.ld 1 false (.t 127)), none, []⟩,
    ⟨some 129, (.bin .lss false [] (.t 128) (.c (.i .i64 0))), none, []⟩] [4, 11, 129] []) 
  (.cond (.t 129) 
    (.reg [⟨some 130, (.mv (.t 11)), none, []⟩,
      ⟨some 131, (.un .neg (.t 130)), none, []⟩,
      ⟨some 11, (.mv (.t 131)), none, []⟩] [4, 11] []) .skip))) c49_s2)
def c49_s4 : IC := 
  (.seq 
  (.seq 
  (.reg [⟨some 121, (.mv (.t 11)), none, []⟩,
    ⟨some 122, (.bin .eql false [1] (.t 121) (.c (.i .i64 0))), none, []⟩] [4, 11, 122] []) 
  (.cond (.t 122) 
    (.seq 
    (.reg [⟨some 2, (.mv (.c (.sl (.int .i64) [] false true))), none, []⟩,
      ⟨some 3, (.mv (.c (.b false))), none, []⟩] [2, 3] []) .ret) .skip)) c49_s3)
def c49_s5 : IC := 
  (.seq 
  (.reg [⟨some 119, (.mv (.t 4)), none, []⟩,
    ⟨some 120, (.call (.f 100) [(.t 119)]), none, []⟩,
    ⟨some 11, (.mv (.t 120)), none, []⟩] [4, 11] [6]) c49_s4)
def c49_b1 : IC := 
  (.seq 
  (.reg [⟨some 73, (.bin .lss false [] (.t 72) (.c (.i .i64 3))), none, []⟩] [4, 6, 72, 73] []) 
  (.seq 
  (.cond (.t 73) .skip (.exit 1)) 
  (.seq 
  (.block 2 
    (.seq 
    (.reg [⟨some 74, (.mv (.t 72)), none, []⟩,
      ⟨some 7, (.mv (.t 74)), none, []⟩] [4, 6, 7, 72] []) 
    (.seq 
    (.dreg [⟨some 75, (.mv (.t 7)), none, []⟩,
      ⟨some 76, (.ixp 3 3 (.t 6) (.c (.i .i64 0))), none, []⟩,
      ⟨some 77, (.ixp 3 1 (.t 76) (.t 75)), none, []⟩,
      ⟨some 78, (.ld 1 false (.t 77)), none, []⟩,
      ⟨some 79, (.mv (.t 7)), none, []⟩,
      ⟨some 80, (.ixp 3 3 (.t 6) (.c (.i .i64 1))), none, []⟩,
      ⟨some 81, (.ixp 3 1 (.t 80) (.t 79)), none, []⟩,
      ⟨some 82, (.ld 1 false (.t 81)), none, []⟩,
      ⟨some 83, (.mv (.t 7)), none, []⟩,
      ⟨some 84, (.ixp 3 3 (.t 6) (.c (.i .i64 2))), none, []⟩,
      ⟨some 85, (.ixp 3 1 (.t 84) (.t 83)), none, []⟩,
      ⟨some 86, (.ld 1 false (.t 85)), none, []⟩,
      ⟨some 87, (.bsl (.int .i64) true [(.t 78), (.t 82), (.t 86)]), none, []⟩,
      ⟨some 8, (.mv (.t 87)), none, []⟩] [[], [], [0, 1], [0, 1, 2], [], [], [4, 5], [4, 5, 6], [], [], [8, 9], [8, 9, 10], [0, 1, 2, 3, 4, 5, 6, 7, 8, 9, 10, 11], [0, 1, 2, 3, 4, 5, 6, 7, 8, 9, 10, 11, 12]] [4, 6, 8, 72] []) 
    (.seq 
    (.reg [⟨some 88, (.mv (.t 8)), none, []⟩,
      ⟨some 89, (.call (.f 97) [(.t 88), (.f 98)]), none, []⟩] [4, 6, 8, 72, 89] []) 
    (.cond (.t 89) 
      (.seq 
      (.reg [⟨some 90, (.mv (.t 8)), none, []⟩,
        ⟨some 4, (.mv (.t 90)), none, []⟩] [4] [6]) (.exit 1)) .skip))))) 
  (.reg [⟨some 91, (.bin .add false [] (.t 72) (.c (.i .i64 1))), none, []⟩,
    ⟨some 72, (.mv (.t 91)), none, []⟩] [4, 6, 72] []))))
def c49_b2 : IC := 
  (.seq 
  (.reg [⟨some 97, (.bin .lss false [] (.t 96) (.t 95)), none, []⟩] [0, 4, 9, 95, 96, 97] []) 
  (.seq 
  (.cond (.t 97) .skip (.exit 3)) 
  (.seq 
  (.block 4 
    (.seq 
    (.reg [⟨some 98, (.mv (.t 96)), none, []⟩,
      ⟨some 10, (.mv (.t 98)), none, []⟩] [0, 4, 9, 10, 95, 96] []) 
    (.seq 
    (.dreg [⟨some 99, (.mv (.t 4)), none, []⟩,
      ⟨some 100, (.mv (.t 9)), none, []⟩,
      ⟨some 101, (.mv (.t 0)), none, []⟩,
      ⟨some 102, (.mv (.t 10)), none, []⟩,
      ⟨some 103, (.slc 3 (.t 101) none (some (.t 102)) none), none, []⟩,
      ⟨some 104, (.mv (.t 0)), none, []⟩,
      ⟨some 105, (.mv (.t 10)), none, []⟩,
      ⟨some 106, (.bin .add false [] (.t 105) (.c (.i .i64 1))), none, []⟩,
      ⟨some 107, (.slc 3 (.t 104) (some (.t 106)) none none), none, []⟩,
      ⟨some 108, (.bsl (.slice (.prod (.int .i64) (.prod (.int .i64) (.int .i64)))) false [(.t 103), (.t 107)]), none, []⟩,
      ⟨some 109, (.call (.f 99) [(.t 108)]), none, []⟩,
      ⟨some 110, (.s2a 3 (.t 109)), none, []⟩,
      ⟨some 111, (.ld 9 true (.t 110)), none, []⟩,
      ⟨some 112, (.call (.f 69) [(.t 111)]), none, []⟩,
      ⟨some 113, (.bin .mul false [] (.t 100) (.t 112)), none, []⟩,
      ⟨some 114, (.bsl (.int .i64) false [(.t 113)]), none, []⟩,
      ⟨some 115, (.app (.int .i64) 4398046511104 (.t 99) (.t 114)), none, []⟩,
      ⟨some 4, (.mv (.t 115)), none, []⟩] [[], [], [], [], [2, 3], [], [], [6], [5, 6, 7], [2, 3, 4, 5, 6, 7, 8], [2, 3, 4, 5, 6, 7, 8, 9], [2, 3, 4, 5, 6, 7, 8, 9, 10], [2, 3, 4, 5, 6, 7, 8, 9, 10, 11], [2, 3, 4, 5, 6, 7, 8, 9, 10, 11, 12], [1, 2, 3, 4, 5, 6, 7, 8, 9, 10, 11, 12, 13], [1, 2, 3, 4, 5, 6, 7, 8, 9, 10, 11, 12, 13, 14], [0, 1, 2, 3, 4, 5, 6, 7, 8, 9, 10, 11, 12, 13, 14, 15], [0, 1, 2, 3, 4, 5, 6, 7, 8, 9, 10, 11, 12, 13, 14, 15, 16]] [0, 4, 9, 95, 96] []) 
    (.reg [⟨some 116, (.mv (.t 9)), none, []⟩,
      ⟨some 117, (.un .neg (.t 116)), none, []⟩,
      ⟨some 9, (.mv (.t 117)), none, []⟩] [0, 4, 9, 95, 96] [])))) 
  (.reg [⟨some 118, (.bin .add false [] (.t 96) (.c (.i .i64 1))), none, []⟩,
    ⟨some 96, (.mv (.t 118)), none, []⟩] [0, 4, 9, 95, 96] []))))
def c49_s6 : IC := 
  (.seq 
  (.seq 
  (.reg [⟨some 14, (.mv (.t 0)), none, []⟩,
    ⟨some 15, (.len false (.t 14)), none, []⟩] [0, 4, 15] []) 
  (.block 0 
    (.seq 
    (.reg [⟨some 17, (.bin .eql false [1] (.t 15) (.c (.i .i64 2))), none, []⟩,
      ⟨some 16, (.mv (.t 17)), none, []⟩] [0, 4, 15, 16] []) 
    (.cond (.t 16) 
      (.seq 
      (.seq 
      (.dreg [⟨some 18, (.mv (.t 0)), none, []⟩,
        ⟨some 19, (.ixs 3 (.t 18) (.c (.i .i64 0))), none, []⟩,
        ⟨some 20, (.ld 3 true (.t 19)), none, []⟩,
        ⟨some 21, (.mv (.t 0)), none, []⟩,
        ⟨some 22, (.ixs 3 (.t 21) (.c (.i .i64 1))), none, []⟩,
        ⟨some 23, (.ld 3 true (.t 22)), none, []⟩,
        ⟨some 24, (.call (.f 78) [(.t 20), (.t 23)]), none, []⟩,
        ⟨some 25, (.bd [(.i .i64 0), (.i .i64 0), (.i .i64 0)] []), none, []⟩,
        ⟨some 26, (.bin .neq true [1, 1, 1] (.t 24) (.t 25)), none, []⟩] [[], [0], [0, 1], [], [3], [3, 4], [0, 1, 2, 3, 4, 5], [], [0, 1, 2, 3, 4, 5, 6, 7]] [0, 26] []) 
      (.cond (.t 26) 
        (.seq 
        (.reg [⟨some 2, (.mv (.c (.sl (.int .i64) [] false true))), none, []⟩,
          ⟨some 3, (.mv (.c (.b false))), none, []⟩] [2, 3] []) .ret) .skip)) 
      (.seq 
      (.reg [⟨some 27, (.mv (.t 0)), none, []⟩,
        ⟨some 28, (.ixs 3 (.t 27) (.c (.i .i64 0))), none, []⟩,
        ⟨some 29, (.sla (.int .i64) 3 (.t 28)), none, []⟩,
        ⟨some 30, (.call (.f 75) [(.t 29), (.f 96)]), none, []⟩,
        ⟨some 5, (.mv (.t 30)), none, []⟩] [0, 5] []) 
      (.dreg [⟨some 31, (.mv (.t 0)), none, []⟩,
        ⟨some 32, (.mv (.t 5)), none, []⟩,
        ⟨some 33, (.ixs 3 (.t 31) (.c (.i .i64 1))), none, []⟩,
        ⟨some 34, (.ixp 3 1 (.t 33) (.t 32)), none, []⟩,
        ⟨some 35, (.ld 1 false (.t 34)), none, []⟩,
        ⟨some 36, (.mv (.t 0)), none, []⟩,
        ⟨some 37, (.mv (.t 5)), none, []⟩,
        ⟨some 38, (.ixs 3 (.t 36) (.c (.i .i64 0))), none, []⟩,
        ⟨some 39, (.ixp 3 1 (.t 38) (.t 37)), none, []⟩,
        ⟨some 40, (.ld 1 false (.t 39)), none, []⟩,
        ⟨some 41, (.un .neg (.t 40)), none, []⟩,
        ⟨some 42, (.bsl (.int .i64) true [(.t 35), (.t 41)]), none, []⟩,
        ⟨some 4, (.mv (.t 42)), none, []⟩] [[], [], [0], [0, 1, 2], [0, 1, 2, 3], [], [], [5], [5, 6, 7], [5, 6, 7, 8], [5, 6, 7, 8, 9], [0, 1, 2, 3, 4, 5, 6, 7, 8, 9, 10], [0, 1, 2, 3, 4, 5, 6, 7, 8, 9, 10, 11]] [4] []))) 
      (.seq 
      (.reg [⟨some 44, (.bin .eql false [1] (.t 15) (.c (.i .i64 3))), none, []⟩,
        ⟨some 43, (.mv (.t 44)), none, []⟩] [0, 4, 15, 43] []) 
      (.cond (.t 43) 
        (.seq 
        (.seq 
        (.reg [⟨some 45, (.mv (.t 0)), none, []⟩,
          ⟨some 46, (.s2a 3 (.t 45)), none, []⟩,
          ⟨some 47, (.ld 9 true (.t 46)), none, []⟩,
          ⟨some 48, (.call (.f 69) [(.t 47)]), none, []⟩,
          ⟨some 49, (.bin .neq false [1] (.t 48) (.c (.i .i64 0))), none, []⟩] [0, 4, 49] []) 
        (.cond (.t 49) 
          (.seq 
          (.reg [⟨some 2, (.mv (.c (.sl (.int .i64) [] false true))), none, []⟩,
            ⟨some 3, (.mv (.c (.b false))), none, []⟩] [2, 3] []) .ret) .skip)) 
        (.seq 
        (.dreg [⟨some 50, (.mv (.t 0)), none, []⟩,
          ⟨some 51, (.ixs 3 (.t 50) (.c (.i .i64 1))), none, []⟩,
          ⟨some 52, (.ld 3 true (.t 51)), none, []⟩,
          ⟨some 53, (.mv (.t 0)), none, []⟩,
          ⟨some 54, (.ixs 3 (.t 53) (.c (.i .i64 2))), none, []⟩,
          ⟨some 55, (.ld 3 true (.t 54)), none, []⟩,
          ⟨some 56, (.call (.f 78) [(.t 52), (.t 55)]), none, []⟩,
          ⟨some 57, (.mv (.t 0)), none, []⟩,
          ⟨some 58, (.ixs 3 (.t 57) (.c (.i .i64 2))), none, []⟩,
          ⟨some 59, (.ld 3 true (.t 58)), none, []⟩,
          ⟨some 60, (.mv (.t 0)), none, []⟩,
          ⟨some 61, (.ixs 3 (.t 60) (.c (.i .i64 0))), none, []⟩,
          ⟨some 62, (.ld 3 true (.t 61)), none, []⟩,
          ⟨some 63, (.call (.f 78) [(.t 59), (.t 62)]), none, []⟩,
          ⟨some 64, (.mv (.t 0)), none, []⟩,
          ⟨some 65, (.ixs 3 (.t 64) (.c (.i .i64 0))), none, []⟩,
          ⟨some 66, (.ld 3 true (.t 65)), none, []⟩,
          ⟨some 67, (.mv (.t 0)), none, []⟩,
          ⟨some 68, (.ixs 3 (.t 67) (.c (.i .i64 1))), none, []⟩,
          ⟨some 69, (.ld 3 true (.t 68)), none, []⟩,
          ⟨some 70, (.call (.f 78) [(.t 66), (.t 69)]), none, []⟩,
          ⟨some 71, (.bd [(.i .i64 0), (.i .i64 0), (.i .i64 0), (.i .i64 0), (.i .i64 0), (.i .i64 0), (.i .i64 0), (.i .i64 0), (.i .i64 0)] [(0, 3, (.t 56)), (3, 3, (.t 63)), (6, 3, (.t 70))]), none, []⟩,
          ⟨some 6, (.al [(.i .i64 0), (.i .i64 0), (.i .i64 0), (.i .i64 0), (.i .i64 0), (.i .i64 0), (.i .i64 0), (.i .i64 0), (.i .i64 0)]), none, []⟩,
          ⟨none, (.st 9 (.t 6) (.t 71)), none, []⟩] [[], [0], [0, 1], [], [3], [3, 4], [0, 1, 2, 3, 4, 5], [], [7], [7, 8], [], [10], [10, 11], [0, 1, 2, 3, 4, 5, 6, 7, 8, 9, 10, 11, 12], [], [14], [14, 15], [], [17], [17, 18], [0, 1, 2, 3, 4, 5, 6, 7, 8, 9, 10, 11, 12, 13, 14, 15, 16, 17, 18, 19], [0, 1, 2, 3, 4, 5, 6, 7, 8, 9, 10, 11, 12, 13, 14, 15, 16, 17, 18, 19, 20], [], [0, 1, 2, 3, 4, 5, 6, 7, 8, 9, 10, 11, 12, 13, 14, 15, 16, 17, 18, 19, 20, 21, 22]] [4, 6] []) 
        (.seq 
        (.reg [⟨some 72, (.mv (.c (.i .i64 0))), none, []⟩] [4, 6, 72] []) 
        (.block 1 (.loop c49_b1))))) 
        (.seq 
        (.reg [⟨some 93, (.bin .eql false [1] (.t 15) (.c (.i .i64 4))), none, []⟩,
          ⟨some 92, (.mv (.t 93)), none, []⟩] [0, 4, 92] []) 
        (.cond (.t 92) 
          (.seq 
          (.reg [⟨some 9, (.mv (.c (.i .i64 1))), none, []⟩] [0, 4, 9] []) 
          (.seq 
          (.reg [⟨some 94, (.mv (.t 0)), none, []⟩,
            ⟨some 95, (.len false (.t 94)), none, []⟩,
            ⟨some 96, (.mv (.c (.i .i64 0))), none, []⟩] [0, 4, 9, 95, 96] []) 
          (.block 3 (.loop c49_b2)))) .skip)))))))) c49_s5)
def c49_s7 : IC := 
  (.seq 
  (.reg [⟨some 4, (.mv (.c (.sl (.int .i64) [] false true))), none, []⟩] [0, 4] []) c49_s6)
def c49 : IC := 
  (.seq 
  (.reg [⟨some 2, (.mv (.c (.sl (.int .i64) [] false true))), none, []⟩,
    ⟨some 3, (.mv (.c (.b false))), none, []⟩] [0] []) c49_s7)
def f49 : IF := ⟨c49, 1, [(.t 2), (.t 3)]⟩
def c49_k0 {R : Type} (H : Hk R) (Y : Yt R) (dp : Nat) (K : Ex → Env → Mem → Option R) : Ex → Env → Mem → Option R := (kBlk 5 (kSeq (fun env mem k => evC H Y c49_s1 dp env mem k) K))
def c49_k1 {R : Type} (H : Hk R) (Y : Yt R) (dp : Nat) (K : Ex → Env → Mem → Option R) : Ex → Env → Mem → Option R := (kBlk 1 (kBlk 0 (kSeq (fun env mem k => evC H Y c49_s5 dp env mem k) K)))
def c49_k2 {R : Type} (H : Hk R) (Y : Yt R) (dp : Nat) (K : Ex → Env → Mem → Option R) : Ex → Env → Mem → Option R := (kBlk 3 (kBlk 0 (kSeq (fun env mem k => evC H Y c49_s5 dp env mem k) K)))

/- slices.Clone[[]int,int] -/
def c50_s0 : IC := .ret
def c50_s1 : IC := 
  (.seq 
  (.reg [⟨some 5, (.bsl (.int .i64) false []), none, []⟩,
    ⟨some 6, (.mv (.t 0)), none, []⟩,
    ⟨some 7, (.app (.int .i64) 4398046511104 (.t 5) (.t 6)), none, []⟩,
    ⟨some 2, (.mv (.t 7)), none, []⟩] [2] []) c50_s0)
def c50_s2 : IC := 
  (.seq 
  (.seq 
  (.reg [⟨some 3, (.mv (.t 0)), none, []⟩,
    ⟨some 4, (.inil false (.t 3)), none, []⟩] [0, 4] []) 
  (.cond (.t 4) 
    (.seq 
    (.reg [⟨some 2, (.mv (.c (.sl (.int .i64) [] false true))), none, []⟩] [2] []) .ret) .skip)) c50_s1)
def c50 : IC := 
  (.seq 
  (.reg [⟨some 2, (.mv (.c (.sl (.int .i64) [] false true))), none, []⟩] [0] []) c50_s2)
def f50 : IF := ⟨c50, 1, [(.t 2)]⟩

/- glidepath/wind.apart -/
def c51_s0 : IC := .ret
def c51_s1 : IC := 
  (.seq 
  (.reg [⟨some 3, (.fa 0 (.t 1)), none, []⟩,
    ⟨some 4, (.ld 1 false (.t 3)), none, []⟩,
    ⟨some 5, (.fa 1 (.t 1)), none, []⟩,
    ⟨some 6, (.ld 1 false (.t 5)), none, []⟩,
    ⟨some 7, (.call (.f 58) [(.c (.i .i64 0)), (.t 4), (.t 6)]), none, []⟩,
    ⟨some 8, (.un .not (.t 7)), none, []⟩,
    ⟨some 2, (.mv (.t 8)), none, []⟩] [2] [1]) c51_s0)
def c51 : IC := 
  (.seq 
  (.reg [⟨some 1, (.bx (.t 0)), none, []⟩,
    ⟨some 2, (.mv (.c (.b false))), none, []⟩] [1] []) c51_s1)
def f51 : IF := ⟨c51, 1, [(.t 2)]⟩

/- glidepath/wind.total -/
def c52_s0 : IC := .ret
def c52_s1 : IC := 
  (.seq 
  (.reg [⟨some 56, (.ld 2 true (.t 5)), none, []⟩,
    ⟨none, (.st 2 (.t 4) (.t 56)), none, []⟩] [4] [3, 5]) c52_s0)
def c52_b0 : IC := 
  (.seq 
  (.reg [⟨some 14, (.bin .lss false [] (.t 13) (.t 12)), none, []⟩] [0, 3, 4, 5, 11, 12, 13, 14] []) 
  (.seq 
  (.cond (.t 14) .skip (.exit 0)) 
  (.seq 
  (.block 1 
    (.seq 
    (.reg [⟨some 15, (.mv (.t 13)), none, []⟩,
      ⟨some 16, (.ixs 1 (.t 11) (.t 13)), none, []⟩,
      ⟨some 17, (.ld 1 false (.t 16)), none, []⟩,
      ⟨some 6, (.mv (.t 15)), none, []⟩,
      ⟨some 7, (.mv (.t 17)), none, []⟩] [0, 3, 4, 5, 6, 7, 11, 12, 13] []) 
    (.seq 
    (.dreg [⟨some 18, (.fa 1 (.t 3)), none, []⟩,
      ⟨some 19, (.ld 1 false (.t 18)), none, []⟩,
      ⟨some 20, (.mv (.t 6)), none, []⟩,
      ⟨some 21, (.ixs 1 (.t 19) (.t 20)), none, []⟩,
      ⟨some 22, (.ld 1 false (.t 21)), none, []⟩,
      ⟨some 23, (.mv (.t 0)), none, []⟩,
      ⟨some 24, (.mv (.t 7)), none, []⟩,
      ⟨some 25, (.ixs 5 (.t 23) (.t 24)), none, []⟩,
      ⟨some 26, (.fa 3 (.t 25)), none, []⟩,
      ⟨some 27, (.fa 0 (.t 26)), none, []⟩,
      ⟨some 28, (.ld 1 false (.t 27)), none, []⟩,
      ⟨some 29, (.bin .mul false [] (.t 22) (.t 28)), none, []⟩,
      ⟨some 30, (.fa 1 (.t 3)), none, []⟩,
      ⟨some 31, (.ld 1 false (.t 30)), none, []⟩,
      ⟨some 32, (.mv (.t 6)), none, []⟩,
      ⟨some 33, (.ixs 1 (.t 31) (.t 32)), none, []⟩,
      ⟨some 34, (.ld 1 false (.t 33)), none, []⟩,
      ⟨some 35, (.mv (.t 0)), none, []⟩,
      ⟨some 36, (.mv (.t 7)), none, []⟩,
      ⟨some 37, (.ixs 5 (.t 35) (.t 36)), none, []⟩,
      ⟨some 38, (.fa 3 (.t 37)), none, []⟩,
      ⟨some 39, (.fa 1 (.t 38)), none, []⟩,
      ⟨some 40, (.ld 1 false (.t 39)), none, []⟩,
      ⟨some 41, (.bin .mul false [] (.t 34) (.t 40)), none, []⟩,
      ⟨some 8, (.mv (.t 29)), none, []⟩,
      ⟨some 9, (.mv (.t 41)), none, []⟩] [[], [0], [], [0, 1, 2], [0, 1, 2, 3], [], [], [5, 6], [5, 6, 7], [5, 6, 7, 8], [5, 6, 7, 8, 9], [0, 1, 2, 3, 4, 5, 6, 7, 8, 9, 10], [], [12], [], [12, 13, 14], [12, 13, 14, 15], [], [], [17, 18], [17, 18, 19], [17, 18, 19, 20], [17, 18, 19, 20, 21], [12, 13, 14, 15, 16, 17, 18, 19, 20, 21, 22], [0, 1, 2, 3, 4, 5, 6, 7, 8, 9, 10, 11], [0, 1, 2, 3, 4, 5, 6, 7, 8, 9, 10, 11, 12, 13, 14, 15, 16, 17, 18, 19, 20, 21, 22, 23, 24]] [0, 3, 4, 5, 8, 9, 11, 12, 13] []) 
    (.reg [⟨some 42, (.fa 0 (.t 5)), none, []⟩,
      ⟨some 43, (.ld 1 false (.t 42)), none, []⟩,
      ⟨some 44, (.mv (.t 8)), none, []⟩,
      ⟨some 45, (.mv (.t 9)), none, []⟩,
      ⟨some 46, (.mn [(.t 44), (.t 45)]), none, []⟩,
      ⟨some 47, (.bin .add false [] (.t 43) (.t 46)), none, []⟩,
      ⟨some 48, (.fa 1 (.t 5)), none, []⟩,
      ⟨some 49, (.ld 1 false (.t 48)), none, []⟩,
      ⟨some 50, (.mv (.t 8)), none, []⟩,
      ⟨some 51, (.mv (.t 9)), none, []⟩,
      ⟨some 52, (.mx [(.t 50), (.t 51)]), none, []⟩,
      ⟨some 53, (.bin .add false [] (.t 49) (.t 52)), none, []⟩,
      ⟨some 54, (.bd [(.i .i64 0), (.i .i64 0)] [(0, 1, (.t 47)), (1, 1, (.t 53))]), none, []⟩,
      ⟨none, (.st 2 (.t 5) (.t 54)), none, []⟩] [0, 3, 4, 5, 11, 12, 13] [])))) 
  (.reg [⟨some 55, (.bin .add false [] (.t 13) (.c (.i .i64 1))), none, []⟩,
    ⟨some 13, (.mv (.t 55)), none, []⟩] [0, 3, 4, 5, 11, 12, 13] []))))
def c52_s2 : IC := 
  (.seq 
  (.seq 
  (.reg [⟨some 10, (.fa 0 (.t 3)), none, []⟩,
    ⟨some 11, (.ld 1 false (.t 10)), none, []⟩,
    ⟨some 12, (.len false (.t 11)), none, []⟩,
    ⟨some 13, (.mv (.c (.i .i64 0))), none, []⟩] [0, 3, 4, 5, 11, 12, 13] []) 
  (.block 0 (.loop c52_b0))) c52_s1)
def c52_s3 : IC := 
  (.seq 
  (.reg [⟨some 5, (.al [(.i .i64 0), (.i .i64 0)]), none, []⟩] [0, 3, 4, 5] []) c52_s2)
def c52 : IC := 
  (.seq 
  (.reg [⟨some 3, (.bx (.t 1)), none, []⟩,
    ⟨some 4, (.al [(.i .i64 0), (.i .i64 0)]), none, []⟩] [0, 3, 4] []) c52_s3)
def f52 : IF := ⟨c52, 2, [(.c 4 2 true)]⟩
def c52_k0 {R : Type} (H : Hk R) (Y : Yt R) (dp : Nat) (K : Ex → Env → Mem → Option R) : Ex → Env → Mem → Option R := (kBlk 0 (kSeq (fun env mem k => evC H Y c52_s1 dp env mem k) K))

/- glidepath/wind.openFull -/
def c53_s0 : IC := .ret
def c53_s1 : IC := 
  (.seq 
  (.reg [⟨some 15, (.mv (.t 4)), none, []⟩,
    ⟨some 16, (.mv (.t 5)), none, []⟩,
    ⟨some 2, (.mv (.t 15)), none, []⟩,
    ⟨some 3, (.mv (.t 16)), none, []⟩] [2, 3] []) c53_s0)
def c53_s2 : IC := 
  (.seq 
  (.seq 
  (.reg [⟨some 11, (.mv (.t 5)), none, []⟩,
    ⟨some 12, (.bin .eql false [1] (.t 11) (.c (.i .i64 0))), none, []⟩] [4, 5, 12] []) 
  (.cond (.t 12) 
    (.reg [⟨some 13, (.mv (.t 4)), none, []⟩,
      ⟨some 14, (.call (.f 102) [(.t 13)]), none, []⟩,
      ⟨some 5, (.mv (.t 14)), none, []⟩] [4, 5] []) .skip)) c53_s1)
def c53_s3 : IC := 
  (.seq 
  (.reg [⟨some 7, (.mv (.t 0)), none, []⟩,
    ⟨some 8, (.call (.f 55) [(.t 7)]), none, []⟩,
    ⟨some 6, (.mv (.t 8)), none, []⟩,
    ⟨some 9, (.ex (.t 6) 0), none, []⟩,
    ⟨some 10, (.ex (.t 6) 1), none, []⟩,
    ⟨some 4, (.mv (.t 9)), none, []⟩,
    ⟨some 5, (.mv (.t 10)), none, []⟩] [4, 5] []) c53_s2)
def c53 : IC := 
  (.seq 
  (.reg [⟨some 2, (.mv (.c (.sl (.prod (.prod (.int .i64) (.prod (.int .i64) (.int .i64))) (.prod (.int .i64) (.int .i64))) [] false true))), none, []⟩,
    ⟨some 3, (.mv (.c (.i .i64 0))), none, []⟩] [0] []) c53_s3)
def f53 : IF := ⟨c53, 1, [(.t 2), (.t 3)]⟩

/- (glidepath/wind.readings).vertices -/
def c54_s0 : IC := .ret
def c54_s1 : IC := 
  (.seq 
  (.reg [⟨some 108, (.mv (.t 15)), none, []⟩,
    ⟨some 2, (.mv (.t 108)), none, []⟩] [2] []) c54_s0)
def c54_s2 : IC := 
  (.seq 
  (.reg [⟨some 106, (.mv (.t 15)), none, []⟩,
    ⟨some 107, (.srt 103 (.t 106) (.f 104)), none, []⟩] [15] [17, 97]) c54_s1)
def c54_b0 : IC := 
  (.seq 
  (.reg [⟨some 98, (.nxt (.t 97)), none, []⟩,
    ⟨some 99, (.ex (.t 98) 0), none, []⟩] [15, 97, 99] []) 
  (.seq 
  (.cond (.t 99) .skip (.exit 12)) 
  (.block 13 
    (.seq 
    (.reg [⟨some 100, (.ent (.t 97)), none, []⟩,
      ⟨some 101, (.ex (.t 100) 0), none, []⟩,
      ⟨some 16, (.al [(.i .i64 0), (.i .i64 0), (.i .i64 0), (.i .i64 0)]), none, []⟩,
      ⟨none, (.st 4 (.t 16) (.t 101)), none, []⟩] [15, 16, 97] []) 
    (.reg [⟨some 102, (.mv (.t 15)), none, []⟩,
      ⟨some 103, (.ld 4 true (.t 16)), none, []⟩,
      ⟨some 104, (.bsl (.prod (.int .i64) (.prod (.int .i64) (.prod (.int .i64) (.int .i64)))) false [(.t 103)]), none, []⟩,
      ⟨some 105, (.app (.prod (.int .i64) (.prod (.int .i64) (.prod (.int .i64) (.int .i64)))) 1099511627776 (.t 102) (.t 104)), none, []⟩,
      ⟨some 15, (.mv (.t 105)), none, []⟩] [15, 97] [16])))))
def c54_s3 : IC := 
  (.seq 
  (.seq 
  (.reg [⟨some 96, (.mv (.t 3)), none, []⟩,
    ⟨some 97, (.rng (.t 96)), none, []⟩] [15, 97] []) 
  (.block 12 (.loop c54_b0))) c54_s2)
def c54_s4 : IC := 
  (.seq 
  (.reg [⟨some 15, (.mv (.c (.sl (.prod (.int .i64) (.prod (.int .i64) (.prod (.int .i64) (.int .i64)))) [] false true))), none, []⟩] [3, 15] []) c54_s3)
def c54_s5 : IC := 
  (.reg [⟨some 95, (.bin .add false [] (.t 20) (.c (.i .i64 1))), none, []⟩,
    ⟨some 20, (.mv (.t 95)), none, []⟩] [0, 3, 19, 20] [])
def c54_s6 : IC := 
  (.reg [⟨some 94, (.bin .add false [] (.t 24) (.c (.i .i64 1))), none, []⟩,
    ⟨some 24, (.mv (.t 94)), none, []⟩] [0, 3, 4, 19, 20, 23, 24] [])
def c54_s7 : IC := 
  (.reg [⟨some 93, (.bin .add false [] (.t 28) (.c (.i .i64 1))), none, []⟩,
    ⟨some 28, (.mv (.t 93)), none, []⟩] [0, 3, 4, 5, 19, 20, 23, 24, 27, 28] [7, 8])
def c54_s8 : IC := 
  (.reg [⟨some 92, (.bin .add false [] (.t 59) (.c (.i .i64 1))), none, []⟩,
    ⟨some 59, (.mv (.t 92)), none, []⟩] [0, 3, 4, 5, 7, 8, 19, 20, 23, 24, 27, 28, 59] [14])
def c54_s9 : IC := 
    (.seq 
    (.reg [⟨some 85, (.ld 12 true (.t 8)), none, []⟩,
      ⟨some 86, (.call (.f 66) [(.t 85), (.c (.i .i64 1))]), none, []⟩,
      ⟨some 14, (.al [(.i .i64 0), (.i .i64 0), (.i .i64 0), (.i .i64 0)]), none, []⟩,
      ⟨none, (.st 4 (.t 14) (.t 86)), none, []⟩] [0, 3, 4, 5, 7, 8, 14, 19, 20, 23, 24, 27, 28, 59] []) 
    (.seq 
    (.reg [⟨some 87, (.mv (.t 0)), none, []⟩,
      ⟨some 88, (.ld 4 true (.t 14)), none, []⟩,
      ⟨some 89, (.call (.f 57) [(.t 87), (.t 88)]), none, []⟩] [0, 3, 4, 5, 7, 8, 14, 19, 20, 23, 24, 27, 28, 59, 89] []) 
    (.cond (.t 89) 
      (.reg [⟨some 90, (.mv (.t 3)), none, []⟩,
        ⟨some 91, (.ld 4 true (.t 14)), none, []⟩,
        ⟨none, (.mpu true [1, 1, 1, 1] (.t 90) (.t 91) (.c (.b true))), none, []⟩] [0, 3, 4, 5, 7, 8, 19, 20, 23, 24, 27, 28, 59] [14]) .skip)))
def c54_b5 : IC := 
  (.seq 
  (.reg [⟨some 64, (.bin .lss false [] (.t 63) (.c (.i .i64 3))), none, []⟩] [0, 3, 4, 5, 7, 8, 11, 19, 20, 23, 24, 27, 28, 59, 62, 63, 64] []) 
  (.seq 
  (.cond (.t 64) .skip (.exit 10)) 
  (.seq 
  (.block 11 
    (.seq 
    (.reg [⟨some 65, (.mv (.t 63)), none, []⟩,
      ⟨some 66, (.ixv 3 5 true (.t 62) (.t 63)), none, []⟩,
      ⟨some 13, (.al [(.i .i64 0), (.i .i64 0), (.i .i64 0), (.i .i64 0), (.i .i64 0)]), none, []⟩,
      ⟨some 12, (.mv (.t 65)), none, []⟩,
      ⟨none, (.st 5 (.t 13) (.t 66)), none, []⟩] [0, 3, 4, 5, 7, 8, 11, 12, 13, 19, 20, 23, 24, 27, 28, 59, 62, 63] []) 
    (.seq 
    (.reg [⟨some 67, (.mv (.t 12)), none, []⟩,
      ⟨some 68, (.fa 3 (.t 13)), none, []⟩,
      ⟨some 69, (.fa 0 (.t 68)), none, []⟩,
      ⟨some 70, (.ld 1 false (.t 69)), none, []⟩,
      ⟨some 71, (.fa 9 (.t 8)), none, []⟩,
      ⟨some 72, (.ixp 3 1 (.t 71) (.t 67)), none, []⟩,
      ⟨none, (.st 1 (.t 72) (.t 70)), none, []⟩] [0, 3, 4, 5, 7, 8, 11, 12, 13, 19, 20, 23, 24, 27, 28, 59, 62, 63] []) 
    (.seq 
    (.reg [⟨some 73, (.mv (.t 11)), none, []⟩,
      ⟨some 74, (.mv (.t 12)), none, []⟩,
      ⟨some 75, (.bin .shr false [] (.t 73) (.t 74)), none, []⟩,
      ⟨some 76, (.bin .and false [] (.t 75) (.c (.i .i64 1))), none, []⟩,
      ⟨some 77, (.bin .eql false [1] (.t 76) (.c (.i .i64 1))), none, []⟩] [0, 3, 4, 5, 7, 8, 11, 12, 13, 19, 20, 23, 24, 27, 28, 59, 62, 63, 77] []) 
    (.cond (.t 77) 
      (.reg [⟨some 78, (.mv (.t 12)), none, []⟩,
        ⟨some 79, (.fa 3 (.t 13)), none, []⟩,
        ⟨some 80, (.fa 1 (.t 79)), none, []⟩,
        ⟨some 81, (.ld 1 false (.t 80)), none, []⟩,
        ⟨some 82, (.fa 9 (.t 8)), none, []⟩,
        ⟨some 83, (.ixp 3 1 (.t 82) (.t 78)), none, []⟩,
        ⟨none, (.st 1 (.t 83) (.t 81)), none, []⟩] [0, 3, 4, 5, 7, 8, 11, 19, 20, 23, 24, 27, 28, 59, 62, 63] [13]) .skip))))) 
  (.reg [⟨some 84, (.bin .add false [] (.t 63) (.c (.i .i64 1))), none, []⟩,
    ⟨some 63, (.mv (.t 84)), none, []⟩] [0, 3, 4, 5, 7, 8, 11, 19, 20, 23, 24, 27, 28, 59, 62, 63] [13]))))
def c54_b4 : IC := 
  (.seq 
  (.reg [⟨some 60, (.bin .lss false [] (.t 59) (.c (.i .i64 8))), none, []⟩] [0, 3, 4, 5, 7, 8, 19, 20, 23, 24, 27, 28, 59, 60] []) 
  (.seq 
  (.cond (.t 60) .skip (.exit 8)) 
  (.seq 
  (.block 9 
    (.seq 
    (.reg [⟨some 61, (.mv (.t 59)), none, []⟩,
      ⟨some 11, (.mv (.t 61)), none, []⟩] [0, 3, 4, 5, 7, 8, 11, 19, 20, 23, 24, 27, 28, 59] []) 
    (.seq 
    (.seq 
    (.reg [⟨some 62, (.ld 15 true (.t 7)), none, []⟩,
      ⟨some 63, (.mv (.c (.i .i64 0))), none, []⟩] [0, 3, 4, 5, 7, 8, 11, 19, 20, 23, 24, 27, 28, 59, 62, 63] []) 
    (.block 10 (.loop c54_b5))) c54_s9))) c54_s8)))
def c54_s10 : IC := 
    (.seq 
    (.seq 
    (.reg [⟨some 55, (.fa 0 (.t 8)), none, []⟩,
      ⟨some 56, (.ld 9 true (.t 55)), none, []⟩,
      ⟨some 57, (.call (.f 69) [(.t 56)]), none, []⟩,
      ⟨some 58, (.bin .eql false [1] (.t 57) (.c (.i .i64 0))), none, []⟩] [0, 3, 4, 5, 7, 8, 19, 20, 23, 24, 27, 28, 58] []) 
    (.cond (.t 58) (.exit 5) .skip)) 
    (.seq 
    (.reg [⟨some 59, (.mv (.c (.i .i64 0))), none, []⟩] [0, 3, 4, 5, 7, 8, 19, 20, 23, 24, 27, 28, 59] []) 
    (.block 8 (.loop c54_b4))))
def c54_b6 : IC := 
  (.seq 
  (.reg [⟨some 46, (.bin .lss false [] (.t 45) (.c (.i .i64 3))), none, []⟩] [0, 3, 4, 5, 7, 8, 19, 20, 23, 24, 27, 28, 44, 45, 46] []) 
  (.seq 
  (.cond (.t 46) .skip (.exit 6)) 
  (.seq 
  (.block 7 
    (.seq 
    (.reg [⟨some 47, (.mv (.t 45)), none, []⟩,
      ⟨some 48, (.ixv 3 5 true (.t 44) (.t 45)), none, []⟩,
      ⟨some 10, (.al [(.i .i64 0), (.i .i64 0), (.i .i64 0), (.i .i64 0), (.i .i64 0)]), none, []⟩,
      ⟨some 9, (.mv (.t 47)), none, []⟩,
      ⟨none, (.st 5 (.t 10) (.t 48)), none, []⟩] [0, 3, 4, 5, 7, 8, 9, 10, 19, 20, 23, 24, 27, 28, 44, 45] []) 
    (.reg [⟨some 49, (.mv (.t 9)), none, []⟩,
      ⟨some 50, (.fa 0 (.t 10)), none, []⟩,
      ⟨some 51, (.ld 3 true (.t 50)), none, []⟩,
      ⟨some 52, (.fa 0 (.t 8)), none, []⟩,
      ⟨some 53, (.ixp 3 3 (.t 52) (.t 49)), none, []⟩,
      ⟨none, (.st 3 (.t 53) (.t 51)), none, []⟩] [0, 3, 4, 5, 7, 8, 19, 20, 23, 24, 27, 28, 44, 45] [10]))) 
  (.reg [⟨some 54, (.bin .add false [] (.t 45) (.c (.i .i64 1))), none, []⟩,
    ⟨some 45, (.mv (.t 54)), none, []⟩] [0, 3, 4, 5, 7, 8, 19, 20, 23, 24, 27, 28, 44, 45] []))))
def c54_b3 : IC := 
  (.seq 
  (.reg [⟨some 29, (.bin .lss false [] (.t 28) (.t 27)), none, []⟩] [0, 3, 4, 5, 19, 20, 23, 24, 27, 28, 29] []) 
  (.seq 
  (.cond (.t 29) .skip (.exit 4)) 
  (.seq 
  (.block 5 
    (.seq 
    (.reg [⟨some 30, (.mv (.t 28)), none, []⟩,
      ⟨some 6, (.mv (.t 30)), none, []⟩] [0, 3, 4, 5, 6, 19, 20, 23, 24, 27, 28] []) 
    (.seq 
    (.dreg [⟨some 31, (.mv (.t 0)), none, []⟩,
      ⟨some 32, (.mv (.t 6)), none, []⟩,
      ⟨some 33, (.ixs 5 (.t 31) (.t 32)), none, []⟩,
      ⟨some 34, (.ld 5 true (.t 33)), none, []⟩,
      ⟨some 35, (.mv (.t 0)), none, []⟩,
      ⟨some 36, (.mv (.t 5)), none, []⟩,
      ⟨some 37, (.ixs 5 (.t 35) (.t 36)), none, []⟩,
      ⟨some 38, (.ld 5 true (.t 37)), none, []⟩,
      ⟨some 39, (.mv (.t 0)), none, []⟩,
      ⟨some 40, (.mv (.t 4)), none, []⟩,
      ⟨some 41, (.ixs 5 (.t 39) (.t 40)), none, []⟩,
      ⟨some 42, (.ld 5 true (.t 41)), none, []⟩,
      ⟨some 43, (.bd [(.i .i64 0), (.i .i64 0), (.i .i64 0), (.i .i64 0), (.i .i64 0), (.i .i64 0), (.i .i64 0), (.i .i64 0), (.i .i64 0), (.i .i64 0), (.i .i64 0), (.i .i64 0), (.i .i64 0), (.i .i64 0), (.i .i64 0)] [(0, 5, (.t 34)), (5, 5, (.t 38)), (10, 5, (.t 42))]), none, []⟩,
      ⟨some 7, (.al [(.i .i64 0), (.i .i64 0), (.i .i64 0), (.i .i64 0), (.i .i64 0), (.i .i64 0), (.i .i64 0), (.i .i64 0), (.i .i64 0), (.i .i64 0), (.i .i64 0), (.i .i64 0), (.i .i64 0), (.i .i64 0), (.i .i64 0)]), none, []⟩,
      ⟨none, (.st 15 (.t 7) (.t 43)), none, []⟩] [[], [], [0, 1], [0, 1, 2], [], [], [4, 5], [4, 5, 6], [], [], [8, 9], [8, 9, 10], [0, 1, 2, 3, 4, 5, 6, 7, 8, 9, 10, 11], [], [0, 1, 2, 3, 4, 5, 6, 7, 8, 9, 10, 11, 12, 13]] [0, 3, 4, 5, 7, 19, 20, 23, 24, 27, 28] []) 
    (.seq 
    (.reg [⟨some 8, (.al [(.i .i64 0), (.i .i64 0), (.i .i64 0), (.i .i64 0), (.i .i64 0), (.i .i64 0), (.i .i64 0), (.i .i64 0), (.i .i64 0), (.i .i64 0), (.i .i64 0), (.i .i64 0)]), none, []⟩] [0, 3, 4, 5, 7, 8, 19, 20, 23, 24, 27, 28] []) 
    (.seq 
    (.seq 
    (.reg [⟨some 44, (.ld 15 true (.t 7)), none, []⟩,
      ⟨some 45, (.mv (.c (.i .i64 0))), none, []⟩] [0, 3, 4, 5, 7, 8, 19, 20, 23, 24, 27, 28, 44, 45] []) 
    (.block 6 (.loop c54_b6))) c54_s10))))) c54_s7)))
def c54_b2 : IC := 
  (.seq 
  (.reg [⟨some 25, (.bin .lss false [] (.t 24) (.t 23)), none, []⟩] [0, 3, 4, 19, 20, 23, 24, 25] []) 
  (.seq 
  (.cond (.t 25) .skip (.exit 2)) 
  (.seq 
  (.block 3 
    (.seq 
    (.reg [⟨some 26, (.mv (.t 24)), none, []⟩,
      ⟨some 5, (.mv (.t 26)), none, []⟩] [0, 3, 4, 5, 19, 20, 23, 24] []) 
    (.seq 
    (.reg [⟨some 27, (.mv (.t 5)), none, []⟩,
      ⟨some 28, (.mv (.c (.i .i64 0))), none, []⟩] [0, 3, 4, 5, 19, 20, 23, 24, 27, 28] []) 
    (.block 4 (.loop c54_b3))))) c54_s6)))
def c54_b1 : IC := 
  (.seq 
  (.reg [⟨some 21, (.bin .lss false [] (.t 20) (.t 19)), none, []⟩] [0, 3, 19, 20, 21] []) 
  (.seq 
  (.cond (.t 21) .skip (.exit 0)) 
  (.seq 
  (.block 1 
    (.seq 
    (.reg [⟨some 22, (.mv (.t 20)), none, []⟩,
      ⟨some 4, (.mv (.t 22)), none, []⟩] [0, 3, 4, 19, 20] []) 
    (.seq 
    (.reg [⟨some 23, (.mv (.t 4)), none, []⟩,
      ⟨some 24, (.mv (.c (.i .i64 0))), none, []⟩] [0, 3, 4, 19, 20, 23, 24] []) 
    (.block 2 (.loop c54_b2))))) c54_s5)))
def c54_s11 : IC := 
  (.seq 
  (.seq 
  (.reg [⟨some 18, (.mv (.t 0)), none, []⟩,
    ⟨some 19, (.len false (.t 18)), none, []⟩,
    ⟨some 20, (.mv (.c (.i .i64 0))), none, []⟩] [0, 3, 19, 20] []) 
  (.block 0 (.loop c54_b1))) c54_s4)
def c54_s12 : IC := 
  (.seq 
  (.reg [⟨some 17, (.mkm true false (.prod (.int .i64) (.prod (.int .i64) (.prod (.int .i64) (.int .i64)))) .bool), none, []⟩,
    ⟨some 3, (.mv (.t 17)), none, []⟩] [0, 3] []) c54_s11)
def c54 : IC := 
  (.seq 
  (.reg [⟨some 2, (.mv (.c (.sl (.prod (.int .i64) (.prod (.int .i64) (.prod (.int .i64) (.int .i64)))) [] false true))), none, []⟩] [0] []) c54_s12)
def f54 : IF := ⟨c54, 1, [(.t 2)]⟩
def c54_k0 {R : Type} (H : Hk R) (Y : Yt R) (dp : Nat) (K : Ex → Env → Mem → Option R) : Ex → Env → Mem → Option R := (kBlk 12 (kSeq (fun env mem k => evC H Y c54_s2 dp env mem k) K))
def c54_k5 {R : Type} (H : Hk R) (Y : Yt R) (dp : Nat) (K : Ex → Env → Mem → Option R) : Ex → Env → Mem → Option R := (kBlk 10 (kSeq (fun env mem k => evC H Y c54_s9 dp env mem k) (kBlk 9 (kSeq (fun env mem k => evC H Y c54_s8 dp env mem k) K))))
def c54_k4 {R : Type} (H : Hk R) (Y : Yt R) (dp : Nat) (K : Ex → Env → Mem → Option R) : Ex → Env → Mem → Option R := (kBlk 8 (kBlk 5 (kSeq (fun env mem k => evC H Y c54_s7 dp env mem k) K)))
def c54_k6 {R : Type} (H : Hk R) (Y : Yt R) (dp : Nat) (K : Ex → Env → Mem → Option R) : Ex → Env → Mem → Option R := (kBlk 6 (kSeq (fun env mem k => evC H Y c54_s10 dp env mem k) (kBlk 5 (kSeq (fun env mem k => evC H Y c54_s7 dp env mem k) K))))
def c54_k3 {R : Type} (H : Hk R) (Y : Yt R) (dp : Nat) (K : Ex → Env → Mem → Option R) : Ex → Env → Mem → Option R := (kBlk 4 (kBlk 3 (kSeq (fun env mem k => evC H Y c54_s6 dp env mem k) K)))
def c54_k2 {R : Type} (H : Hk R) (Y : Yt R) (dp : Nat) (K : Ex → Env → Mem → Option R) : Ex → Env → Mem → Option R := (kBlk 2 (kBlk 1 (kSeq (fun env mem k => evC H Y c54_s5 dp env mem k) K)))
def c54_k1 {R : Type} (H : Hk R) (Y : Yt R) (dp : Nat) (K : Ex → Env → Mem → Option R) : Ex → Env → Mem → Option R := (kBlk 0 (kSeq (fun env mem k => evC H Y c54_s4 dp env mem k) K))

/- glidepath/wind.open -/
def c55_s0 : IC := .ret
def c55_s1 : IC := 
  (.seq 
  (.reg [⟨some 11, (.mv (.t 0)), none, []⟩,
    ⟨some 12, (.mv (.t 5)), none, []⟩,
    ⟨some 2, (.mv (.t 11)), none, []⟩,
    ⟨some 3, (.mv (.t 12)), none, []⟩] [2, 3] []) c55_s0)
def c55_s2 : IC := 
  (.seq 
  (.reg [⟨some 7, (.mv (.t 0)), none, []⟩,
    ⟨some 8, (.call (.f 47) [(.t 7)]), none, []⟩,
    ⟨some 6, (.mv (.t 8)), none, []⟩,
    ⟨some 9, (.ex (.t 6) 0), none, []⟩,
    ⟨some 10, (.ex (.t 6) 1), none, []⟩,
    ⟨some 4, (.mv (.t 9)), none, []⟩,
    ⟨some 5, (.mv (.t 10)), none, []⟩] [0, 5] []) c55_s1)
def c55 : IC := 
  (.seq 
  (.reg [⟨some 2, (.mv (.c (.sl (.prod (.prod (.int .i64) (.prod (.int .i64) (.int .i64))) (.prod (.int .i64) (.int .i64))) [] false true))), none, []⟩,
    ⟨some 3, (.mv (.c (.i .i64 0))), none, []⟩] [0] []) c55_s2)
def f55 : IF := ⟨c55, 1, [(.t 2), (.t 3)]⟩

/- glidepath/wind.windErr -/
def c56_s0 : IC := .ret
def c56_s1 : IC := 
  (.seq 
  (.reg [⟨some 24, (.fa 3 (.t 1)), none, []⟩,
    ⟨some 25, (.ld 1 false (.t 24)), none, []⟩,
    ⟨some 26, (.fa 0 (.t 1)), none, []⟩,
    ⟨some 27, (.ld 1 false (.t 26)), none, []⟩,
    ⟨some 28, (.fa 1 (.t 1)), none, []⟩,
    ⟨some 29, (.ld 1 false (.t 28)), none, []⟩,
    ⟨some 30, (.fa 2 (.t 1)), none, []⟩,
    ⟨some 31, (.ld 1 false (.t 30)), none, []⟩,
    ⟨some 32, (.bsl (.int .i64) false [(.t 25), (.t 27), (.t 29), (.t 31)]), none, []⟩,
    ⟨some 33, (.call (.f 100) [(.t 32)]), none, []⟩,
    ⟨some 34, (.bin .eql false [1] (.t 33) (.c (.i .i64 1))), none, []⟩,
    ⟨some 35, (.call (.f 43) [(.t 34), (.c (.i .i64 3))]), none, []⟩,
    ⟨some 2, (.mv (.t 35)), none, []⟩] [2] [1]) c56_s0)
def c56_s2 : IC := 
  (.seq 
  (.seq 
  (.reg [⟨some 22, (.mv (.t 3)), none, []⟩,
    ⟨some 23, (.un .not (.t 22)), none, []⟩] [1, 23] []) 
  (.cond (.t 23) 
    (.seq 
    (.reg [⟨some 2, (.mv (.c (.i .i64 2))), none, []⟩] [2] [1]) .ret) .skip)) c56_s1)
def c56_s3 : IC := 
  (.seq 
  (.reg [⟨some 4, (.fa 3 (.t 1)), none, []⟩,
    ⟨some 5, (.ld 1 false (.t 4)), none, []⟩,
    ⟨some 6, (.call (.f 58) [(.t 5), (.c (.i .i64 1)), (.c (.i .i64 1000000000))]), none, []⟩,
    ⟨some 7, (.mv (.t 6)), none, []⟩,
    ⟨some 8, (.fa 0 (.t 1)), some (7, true), []⟩,
    ⟨some 9, (.ld 1 false (.t 8)), some (7, true), []⟩,
    ⟨some 10, (.call (.f 59) [(.t 9), (.c (.i .i64 1000000000000))]), some (7, true), []⟩,
    ⟨some 11, (.pick (.t 7) (.t 10) (.c (.b false))), none, []⟩,
    ⟨some 12, (.mv (.t 11)), none, []⟩,
    ⟨some 13, (.fa 1 (.t 1)), some (12, true), []⟩,
    ⟨some 14, (.ld 1 false (.t 13)), some (12, true), []⟩,
    ⟨some 15, (.call (.f 59) [(.t 14), (.c (.i .i64 1000000000000))]), some (12, true), []⟩,
    ⟨some 16, (.pick (.t 12) (.t 15) (.c (.b false))), none, []⟩,
    ⟨some 17, (.mv (.t 16)), none, []⟩,
    ⟨some 18, (.fa 2 (.t 1)), some (17, true), []⟩,
    ⟨some 19, (.ld 1 false (.t 18)), some (17, true), []⟩,
    ⟨some 20, (.call (.f 59) [(.t 19), (.c (.i .i64 1000000000000))]), some (17, true), []⟩,
    ⟨some 21, (.pick (.t 17) (.t 20) (.c (.b false))), none, []⟩,
    ⟨some 3, (.mv (.t 21)), none, []⟩] [1, 3] []) c56_s2)
def c56 : IC := 
  (.seq 
  (.reg [⟨some 1, (.bx (.t 0)), none, []⟩,
    ⟨some 2, (.mv (.c (.i .i64 0))), none, []⟩] [1] []) c56_s3)
def f56 : IF := ⟨c56, 1, [(.t 2)]⟩

/- (glidepath/wind.readings).agrees -/
def c57_s0 : IC := .ret
def c57_s1 : IC := 
  (.seq 
  (.reg [⟨some 4, (.mv (.c (.b true))), none, []⟩] [4] [3]) c57_s0)
def c57_b0 : IC := 
  (.seq 
  (.reg [⟨some 11, (.bin .lss false [] (.t 10) (.t 9)), none, []⟩] [3, 8, 9, 10, 11] []) 
  (.seq 
  (.cond (.t 11) .skip (.exit 0)) 
  (.seq 
  (.block 1 
    (.seq 
    (.reg [⟨some 12, (.ixs 5 (.t 8) (.t 10)), none, []⟩,
      ⟨some 13, (.ld 5 true (.t 12)), none, []⟩,
      ⟨some 6, (.al [(.i .i64 0), (.i .i64 0), (.i .i64 0), (.i .i64 0), (.i .i64 0)]), none, []⟩,
      ⟨none, (.st 5 (.t 6) (.t 13)), none, []⟩] [3, 6, 8, 9, 10] []) 
    (.seq 
    (.dreg [⟨some 14, (.ld 4 true (.t 3)), none, []⟩,
      ⟨some 15, (.call (.f 67) [(.t 14)]), none, []⟩,
      ⟨some 16, (.fa 0 (.t 6)), none, []⟩,
      ⟨some 17, (.ld 3 true (.t 16)), none, []⟩,
      ⟨some 18, (.call (.f 68) [(.t 15), (.t 17)]), none, []⟩,
      ⟨some 7, (.mv (.t 18)), none, []⟩] [[], [0], [], [2], [0, 1, 2, 3], [0, 1, 2, 3, 4]] [3, 6, 7, 8, 9, 10] []) 
    (.seq 
    (.reg [⟨some 19, (.mv (.t 7)), none, []⟩,
      ⟨some 20, (.fa 3 (.t 6)), none, []⟩,
      ⟨some 21, (.fa 0 (.t 20)), none, []⟩,
      ⟨some 22, (.ld 1 false (.t 21)), none, []⟩,
      ⟨some 23, (.fa 3 (.t 3)), none, []⟩,
      ⟨some 24, (.ld 1 false (.t 23)), none, []⟩,
      ⟨some 25, (.bin .mul false [] (.t 22) (.t 24)), none, []⟩,
      ⟨some 26, (.fa 3 (.t 6)), none, []⟩,
      ⟨some 27, (.fa 1 (.t 26)), none, []⟩,
      ⟨some 28, (.ld 1 false (.t 27)), none, []⟩,
      ⟨some 29, (.fa 3 (.t 3)), none, []⟩,
      ⟨some 30, (.ld 1 false (.t 29)), none, []⟩,
      ⟨some 31, (.bin .mul false [] (.t 28) (.t 30)), none, []⟩,
      ⟨some 32, (.call (.f 58) [(.t 19), (.t 25), (.t 31)]), none, []⟩,
      ⟨some 33, (.un .not (.t 32)), none, []⟩] [3, 8, 9, 10, 33] [6]) 
    (.cond (.t 33) 
      (.seq 
      (.reg [⟨some 4, (.mv (.c (.b false))), none, []⟩] [4] [3]) .ret) .skip))))) 
  (.reg [⟨some 34, (.bin .add false [] (.t 10) (.c (.i .i64 1))), none, []⟩,
    ⟨some 10, (.mv (.t 34)), none, []⟩] [3, 8, 9, 10] []))))
def c57_s2 : IC := 
  (.seq 
  (.seq 
  (.reg [⟨some 8, (.mv (.t 0)), none, []⟩,
    ⟨some 9, (.len false (.t 8)), none, []⟩,
    ⟨some 10, (.mv (.c (.i .i64 0))), none, []⟩] [3, 8, 9, 10] []) 
  (.block 0 (.loop c57_b0))) c57_s1)
def c57 : IC := 
  (.seq 
  (.reg [⟨some 3, (.bx (.t 1)), none, []⟩,
    ⟨some 4, (.mv (.c (.b false))), none, []⟩] [0, 3] []) c57_s2)
def f57 : IF := ⟨c57, 2, [(.t 4)]⟩
def c57_k0 {R : Type} (H : Hk R) (Y : Yt R) (dp : Nat) (K : Ex → Env → Mem → Option R) : Ex → Env → Mem → Option R := (kBlk 0 (kSeq (fun env mem k => evC H Y c57_s1 dp env mem k) K))

/- glidepath/wind.within -/
def c58_s0 : IC := .ret
def c58_s1 : IC := 
  (.seq 
  (.reg [⟨some 7, (.mv (.t 1)), none, []⟩,
    ⟨some 8, (.mv (.t 0)), none, []⟩,
    ⟨some 9, (.bin .leq false [] (.t 7) (.t 8)), none, []⟩,
    ⟨some 10, (.mv (.t 9)), none, []⟩,
    ⟨some 11, (.mv (.t 0)), some (10, true), []⟩,
    ⟨some 12, (.mv (.t 2)), some (10, true), []⟩,
    ⟨some 13, (.bin .leq false [] (.t 11) (.t 12)), some (10, true), []⟩,
    ⟨some 14, (.pick (.t 10) (.t 13) (.c (.b false))), none, []⟩,
    ⟨some 6, (.mv (.t 14)), none, []⟩] [6] []) c58_s0)
def c58 : IC := 
  (.seq 
  (.reg [⟨some 6, (.mv (.c (.b false))), none, []⟩] [0, 1, 2] []) c58_s1)
def f58 : IF := ⟨c58, 3, [(.t 6)]⟩

/- glidepath/wind.sized -/
def c59_s0 : IC := .ret
def c59_s1 : IC := 
  (.seq 
  (.reg [⟨some 5, (.mv (.t 0)), none, []⟩,
    ⟨some 6, (.mv (.t 1)), none, []⟩,
    ⟨some 7, (.un .neg (.t 6)), none, []⟩,
    ⟨some 8, (.mv (.t 1)), none, []⟩,
    ⟨some 9, (.call (.f 58) [(.t 5), (.t 7), (.t 8)]), none, []⟩,
    ⟨some 4, (.mv (.t 9)), none, []⟩] [4] []) c59_s0)
def c59 : IC := 
  (.seq 
  (.reg [⟨some 4, (.mv (.c (.b false))), none, []⟩] [0, 1] []) c59_s1)
def f59 : IF := ⟨c59, 2, [(.t 4)]⟩

/- glidepath/glidepathbase.CopyInts -/
def c60_s0 : IC := .ret
def c60_s1 : IC := 
  (.seq 
  (.reg [⟨some 3, (.bsl (.int .i64) false []), none, []⟩,
    ⟨some 4, (.mv (.t 0)), none, []⟩,
    ⟨some 5, (.app (.int .i64) 4398046511104 (.t 3) (.t 4)), none, []⟩,
    ⟨some 2, (.mv (.t 5)), none, []⟩] [2] []) c60_s0)
def c60 : IC := 
  (.seq 
  (.reg [⟨some 2, (.mv (.c (.sl (.int .i64) [] false true))), none, []⟩] [0] []) c60_s1)
def f60 : IF := ⟨c60, 1, [(.t 2)]⟩

/- glidepath/glidepathref04.Relation -/
def c61_s0 : IC := .ret
def c61_s1 : IC := 
  (.seq 
  (.reg [⟨some 42, (.ld 3 true (.t 5)), none, []⟩,
    ⟨some 43, (.bd [(.i .i64 0), (.i .i64 0), (.i .i64 0)] []), none, []⟩,
    ⟨some 44, (.bin .eql true [1, 1, 1] (.t 42) (.t 43)), none, []⟩,
    ⟨some 4, (.mv (.t 44)), none, []⟩] [4] [3, 5]) c61_s0)
def c61_s2 : IC := 
  (.reg [⟨some 13, (.mv (.t 6)), none, []⟩,
    ⟨some 14, (.bin .add false [] (.t 13) (.c (.i .i64 1))), none, []⟩,
    ⟨some 6, (.mv (.t 14)), none, []⟩] [0, 3, 5, 6] [])
def c61_b1 : IC := 
  (.seq 
  (.seq 
  (.reg [⟨some 15, (.mv (.t 7)), none, []⟩,
    ⟨some 16, (.bin .lss false [] (.t 15) (.c (.i .i64 3))), none, []⟩] [0, 3, 5, 6, 7, 16] []) 
  (.cond (.t 16) .skip (.exit 2))) 
  (.seq 
  (.block 3 
    (.dreg [⟨some 19, (.mv (.t 7)), none, []⟩,
      ⟨some 20, (.mv (.t 7)), none, []⟩,
      ⟨some 21, (.ixp 3 1 (.t 5) (.t 20)), none, []⟩,
      ⟨some 22, (.ld 1 false (.t 21)), none, []⟩,
      ⟨some 23, (.fa 1 (.t 3)), none, []⟩,
      ⟨some 24, (.ld 1 false (.t 23)), none, []⟩,
      ⟨some 25, (.mv (.t 6)), none, []⟩,
      ⟨some 26, (.ixs 1 (.t 24) (.t 25)), none, []⟩,
      ⟨some 27, (.ld 1 false (.t 26)), none, []⟩,
      ⟨some 28, (.mv (.t 0)), none, []⟩,
      ⟨some 29, (.fa 0 (.t 3)), none, []⟩,
      ⟨some 30, (.ld 1 false (.t 29)), none, []⟩,
      ⟨some 31, (.mv (.t 6)), none, []⟩,
      ⟨some 32, (.ixs 1 (.t 30) (.t 31)), none, []⟩,
      ⟨some 33, (.ld 1 false (.t 32)), none, []⟩,
      ⟨some 34, (.mv (.t 7)), none, []⟩,
      ⟨some 35, (.ixs 5 (.t 28) (.t 33)), none, []⟩,
      ⟨some 36, (.fa 0 (.t 35)), none, []⟩,
      ⟨some 37, (.ixp 3 1 (.t 36) (.t 34)), none, []⟩,
      ⟨some 38, (.ld 1 false (.t 37)), none, []⟩,
      ⟨some 39, (.bin .mul false [] (.t 27) (.t 38)), none, []⟩,
      ⟨some 40, (.bin .add false [] (.t 22) (.t 39)), none, []⟩,
      ⟨some 41, (.ixp 3 1 (.t 5) (.t 19)), none, []⟩,
      ⟨none, (.st 1 (.t 41) (.t 40)), none, []⟩] [[], [], [1], [1, 2], [], [4], [], [4, 5, 6], [4, 5, 6, 7], [], [], [10], [], [10, 11, 12], [10, 11, 12, 13], [], [9, 10, 11, 12, 13, 14], [9, 10, 11, 12, 13, 14, 16], [9, 10, 11, 12, 13, 14, 15, 16, 17], [9, 10, 11, 12, 13, 14, 15, 16, 17, 18], [4, 5, 6, 7, 8, 9, 10, 11, 12, 13, 14, 15, 16, 17, 18, 19], [1, 2, 3, 4, 5, 6, 7, 8, 9, 10, 11, 12, 13, 14, 15, 16, 17, 18, 19, 20], [0, 1, 2, 3, 4, 5, 6, 7, 8, 9, 10, 11, 12, 13, 14, 15, 16, 17, 18, 19, 20, 21], [0, 1, 2, 3, 4, 5, 6, 7, 8, 9, 10, 11, 12, 13, 14, 15, 16, 17, 18, 19, 20, 21, 22]] [0, 3, 5, 6, 7] [])) 
  (.reg [⟨some 17, (.mv (.t 7)), none, []⟩,
    ⟨some 18, (.bin .add false [] (.t 17) (.c (.i .i64 1))), none, []⟩,
    ⟨some 7, (.mv (.t 18)), none, []⟩] [0, 3, 5, 6, 7] [])))
def c61_b0 : IC := 
  (.seq 
  (.seq 
  (.reg [⟨some 8, (.mv (.t 6)), none, []⟩,
    ⟨some 9, (.fa 0 (.t 3)), none, []⟩,
    ⟨some 10, (.ld 1 false (.t 9)), none, []⟩,
    ⟨some 11, (.len false (.t 10)), none, []⟩,
    ⟨some 12, (.bin .lss false [] (.t 8) (.t 11)), none, []⟩] [0, 3, 5, 6, 12] []) 
  (.cond (.t 12) .skip (.exit 0))) 
  (.seq 
  (.block 1 
    (.seq 
    (.reg [⟨some 7, (.mv (.c (.i .i64 0))), none, []⟩] [0, 3, 5, 6, 7] []) 
    (.block 2 (.loop c61_b1)))) c61_s2))
def c61_s3 : IC := 
  (.seq 
  (.seq 
  (.reg [⟨some 6, (.mv (.c (.i .i64 0))), none, []⟩] [0, 3, 5, 6] []) 
  (.block 0 (.loop c61_b0))) c61_s1)
def c61_s4 : IC := 
  (.seq 
  (.reg [⟨some 5, (.al [(.i .i64 0), (.i .i64 0), (.i .i64 0)]), none, []⟩] [0, 3, 5] []) c61_s3)
def c61 : IC := 
  (.seq 
  (.reg [⟨some 3, (.bx (.t 1)), none, []⟩,
    ⟨some 4, (.mv (.c (.b false))), none, []⟩] [0, 3] []) c61_s4)
def f61 : IF := ⟨c61, 2, [(.t 4)]⟩
def c61_k1 {R : Type} (H : Hk R) (Y : Yt R) (dp : Nat) (K : Ex → Env → Mem → Option R) : Ex → Env → Mem → Option R := (kBlk 2 (kBlk 1 (kSeq (fun env mem k => evC H Y c61_s2 dp env mem k) K)))
def c61_k0 {R : Type} (H : Hk R) (Y : Yt R) (dp : Nat) (K : Ex → Env → Mem → Option R) : Ex → Env → Mem → Option R := (kBlk 0 (kSeq (fun env mem k => evC H Y c61_s1 dp env mem k) K))

/- glidepath/glidepathref04.Sum -/
def c62_s0 : IC := .ret
def c62_s1 : IC := 
  (.seq 
  (.reg [⟨some 61, (.ld 2 true (.t 5)), none, []⟩,
    ⟨none, (.st 2 (.t 4) (.t 61)), none, []⟩] [4] [3, 5]) c62_s0)
def c62_b0 : IC := 
  (.seq 
  (.seq 
  (.reg [⟨some 9, (.mv (.t 6)), none, []⟩,
    ⟨some 10, (.fa 0 (.t 3)), none, []⟩,
    ⟨some 11, (.ld 1 false (.t 10)), none, []⟩,
    ⟨some 12, (.len false (.t 11)), none, []⟩,
    ⟨some 13, (.bin .lss false [] (.t 9) (.t 12)), none, []⟩] [0, 3, 4, 5, 6, 13] []) 
  (.cond (.t 13) .skip (.exit 0))) 
  (.seq 
  (.block 1 
    (.seq 
    (.dreg [⟨some 16, (.mv (.t 0)), none, []⟩,
      ⟨some 17, (.fa 0 (.t 3)), none, []⟩,
      ⟨some 18, (.ld 1 false (.t 17)), none, []⟩,
      ⟨some 19, (.mv (.t 6)), none, []⟩,
      ⟨some 20, (.ixs 1 (.t 18) (.t 19)), none, []⟩,
      ⟨some 21, (.ld 1 false (.t 20)), none, []⟩,
      ⟨some 22, (.ixs 5 (.t 16) (.t 21)), none, []⟩,
      ⟨some 23, (.fa 3 (.t 22)), none, []⟩,
      ⟨some 24, (.fa 0 (.t 23)), none, []⟩,
      ⟨some 25, (.ld 1 false (.t 24)), none, []⟩,
      ⟨some 26, (.fa 1 (.t 3)), none, []⟩,
      ⟨some 27, (.ld 1 false (.t 26)), none, []⟩,
      ⟨some 28, (.mv (.t 6)), none, []⟩,
      ⟨some 29, (.ixs 1 (.t 27) (.t 28)), none, []⟩,
      ⟨some 30, (.ld 1 false (.t 29)), none, []⟩,
      ⟨some 31, (.bin .mul false [] (.t 25) (.t 30)), none, []⟩,
      ⟨some 32, (.mv (.t 0)), none, []⟩,
      ⟨some 33, (.fa 0 (.t 3)), none, []⟩,
      ⟨some 34, (.ld 1 false (.t 33)), none, []⟩,
      ⟨some 35, (.mv (.t 6)), none, []⟩,
      ⟨some 36, (.ixs 1 (.t 34) (.t 35)), none, []⟩,
      ⟨some 37, (.ld 1 false (.t 36)), none, []⟩,
      ⟨some 38, (.ixs 5 (.t 32) (.t 37)), none, []⟩,
      ⟨some 39, (.fa 3 (.t 38)), none, []⟩,
      ⟨some 40, (.fa 1 (.t 39)), none, []⟩,
      ⟨some 41, (.ld 1 false (.t 40)), none, []⟩,
      ⟨some 42, (.fa 1 (.t 3)), none, []⟩,
      ⟨some 43, (.ld 1 false (.t 42)), none, []⟩,
      ⟨some 44, (.mv (.t 6)), none, []⟩,
      ⟨some 45, (.ixs 1 (.t 43) (.t 44)), none, []⟩,
      ⟨some 46, (.ld 1 false (.t 45)), none, []⟩,
      ⟨some 47, (.bin .mul false [] (.t 41) (.t 46)), none, []⟩,
      ⟨some 7, (.mv (.t 31)), none, []⟩,
      ⟨some 8, (.mv (.t 47)), none, []⟩] [[], [], [1], [], [1, 2, 3], [1, 2, 3, 4], [0, 1, 2, 3, 4, 5], [0, 1, 2, 3, 4, 5, 6], [0, 1, 2, 3, 4, 5, 6, 7], [0, 1, 2, 3, 4, 5, 6, 7, 8], [], [10], [], [10, 11, 12], [10, 11, 12, 13], [0, 1, 2, 3, 4, 5, 6, 7, 8, 9, 10, 11, 12, 13, 14], [], [], [17], [], [17, 18, 19], [17, 18, 19, 20], [16, 17, 18, 19, 20, 21], [16, 17, 18, 19, 20, 21, 22], [16, 17, 18, 19, 20, 21, 22, 23], [16, 17, 18, 19, 20, 21, 22, 23, 24], [], [26], [], [26, 27, 28], [26, 27, 28, 29], [16, 17, 18, 19, 20, 21, 22, 23, 24, 25, 26, 27, 28, 29, 30], [0, 1, 2, 3, 4, 5, 6, 7, 8, 9, 10, 11, 12, 13, 14, 15], [0, 1, 2, 3, 4, 5, 6, 7, 8, 9, 10, 11, 12, 13, 14, 15, 16, 17, 18, 19, 20, 21, 22, 23, 24, 25, 26, 27, 28, 29, 30, 31, 32]] [0, 3, 4, 5, 6, 7, 8] []) 
    (.reg [⟨some 48, (.fa 0 (.t 5)), none, []⟩,
      ⟨some 49, (.ld 1 false (.t 48)), none, []⟩,
      ⟨some 50, (.mv (.t 7)), none, []⟩,
      ⟨some 51, (.mv (.t 8)), none, []⟩,
      ⟨some 52, (.mn [(.t 50), (.t 51)]), none, []⟩,
      ⟨some 53, (.bin .add false [] (.t 49) (.t 52)), none, []⟩,
      ⟨some 54, (.fa 1 (.t 5)), none, []⟩,
      ⟨some 55, (.ld 1 false (.t 54)), none, []⟩,
      ⟨some 56, (.mv (.t 7)), none, []⟩,
      ⟨some 57, (.mv (.t 8)), none, []⟩,
      ⟨some 58, (.mx [(.t 56), (.t 57)]), none, []⟩,
      ⟨some 59, (.bin .add false [] (.t 55) (.t 58)), none, []⟩,
      ⟨some 60, (.bd [(.i .i64 0), (.i .i64 0)] [(0, 1, (.t 53)), (1, 1, (.t 59))]), none, []⟩,
      ⟨none, (.st 2 (.t 5) (.t 60)), none, []⟩] [0, 3, 4, 5, 6] []))) 
  (.reg [⟨some 14, (.mv (.t 6)), none, []⟩,
    ⟨some 15, (.bin .add false [] (.t 14) (.c (.i .i64 1))), none, []⟩,
    ⟨some 6, (.mv (.t 15)), none, []⟩] [0, 3, 4, 5, 6] [])))
def c62_s2 : IC := 
  (.seq 
  (.seq 
  (.reg [⟨some 6, (.mv (.c (.i .i64 0))), none, []⟩] [0, 3, 4, 5, 6] []) 
  (.block 0 (.loop c62_b0))) c62_s1)
def c62_s3 : IC := 
  (.seq 
  (.reg [⟨some 5, (.al [(.i .i64 0), (.i .i64 0)]), none, []⟩] [0, 3, 4, 5] []) c62_s2)
def c62 : IC := 
  (.seq 
  (.reg [⟨some 3, (.bx (.t 1)), none, []⟩,
    ⟨some 4, (.al [(.i .i64 0), (.i .i64 0)]), none, []⟩] [0, 3, 4] []) c62_s3)
def f62 : IF := ⟨c62, 2, [(.c 4 2 true)]⟩
def c62_k0 {R : Type} (H : Hk R) (Y : Yt R) (dp : Nat) (K : Ex → Env → Mem → Option R) : Ex → Env → Mem → Option R := (kBlk 0 (kSeq (fun env mem k => evC H Y c62_s1 dp env mem k) K))

/- glidepath/glidepathref04.Cross -/
def c63_s0 : IC := .ret
def c63_s1 : IC := 
  (.seq 
  (.reg [⟨some 5, (.ixp 3 1 (.t 2) (.c (.i .i64 1))), none, []⟩,
    ⟨some 6, (.ld 1 false (.t 5)), none, []⟩,
    ⟨some 7, (.ixp 3 1 (.t 3) (.c (.i .i64 2))), none, []⟩,
    ⟨some 8, (.ld 1 false (.t 7)), none, []⟩,
    ⟨some 9, (.bin .mul false [] (.t 6) (.t 8)), none, []⟩,
    ⟨some 10, (.ixp 3 1 (.t 2) (.c (.i .i64 2))), none, []⟩,
    ⟨some 11, (.ld 1 false (.t 10)), none, []⟩,
    ⟨some 12, (.ixp 3 1 (.t 3) (.c (.i .i64 1))), none, []⟩,
    ⟨some 13, (.ld 1 false (.t 12)), none, []⟩,
    ⟨some 14, (.bin .mul false [] (.t 11) (.t 13)), none, []⟩,
    ⟨some 15, (.bin .sub false [] (.t 9) (.t 14)), none, []⟩,
    ⟨some 16, (.ixp 3 1 (.t 2) (.c (.i .i64 2))), none, []⟩,
    ⟨some 17, (.ld 1 false (.t 16)), none, []⟩,
    ⟨some 18, (.ixp 3 1 (.t 3) (.c (.i .i64 0))), none, []⟩,
    ⟨some 19, (.ld 1 false (.t 18)), none, []⟩,
    ⟨some 20, (.bin .mul false [] (.t 17) (.t 19)), none, []⟩,
    ⟨some 21, (.ixp 3 1 (.t 2) (.c (.i .i64 0))), none, []⟩,
    ⟨some 22, (.ld 1 false (.t 21)), none, []⟩,
    ⟨some 23, (.ixp 3 1 (.t 3) (.c (.i .i64 2))), none, []⟩,
    ⟨some 24, (.ld 1 false (.t 23)), none, []⟩,
    ⟨some 25, (.bin .mul false [] (.t 22) (.t 24)), none, []⟩,
    ⟨some 26, (.bin .sub false [] (.t 20) (.t 25)), none, []⟩,
    ⟨some 27, (.ixp 3 1 (.t 2) (.c (.i .i64 0))), none, []⟩,
    ⟨some 28, (.ld 1 false (.t 27)), none, []⟩,
    ⟨some 29, (.ixp 3 1 (.t 3) (.c (.i .i64 1))), none, []⟩,
    ⟨some 30, (.ld 1 false (.t 29)), none, []⟩,
    ⟨some 31, (.bin .mul false [] (.t 28) (.t 30)), none, []⟩,
    ⟨some 32, (.ixp 3 1 (.t 2) (.c (.i .i64 1))), none, []⟩,
    ⟨some 33, (.ld 1 false (.t 32)), none, []⟩,
    ⟨some 34, (.ixp 3 1 (.t 3) (.c (.i .i64 0))), none, []⟩,
    ⟨some 35, (.ld 1 false (.t 34)), none, []⟩,
    ⟨some 36, (.bin .mul false [] (.t 33) (.t 35)), none, []⟩,
    ⟨some 37, (.bin .sub false [] (.t 31) (.t 36)), none, []⟩,
    ⟨some 38, (.bd [(.i .i64 0), (.i .i64 0), (.i .i64 0)] [(0, 1, (.t 15)), (1, 1, (.t 26)), (2, 1, (.t 37))]), none, []⟩,
    ⟨none, (.st 3 (.t 4) (.t 38)), none, []⟩] [4] [2, 3]) c63_s0)
def c63 : IC := 
  (.seq 
  (.reg [⟨some 2, (.bx (.t 0)), none, []⟩,
    ⟨some 3, (.bx (.t 1)), none, []⟩,
    ⟨some 4, (.al [(.i .i64 0), (.i .i64 0), (.i .i64 0)]), none, []⟩] [2, 3, 4] []) c63_s1)
def f63 : IF := ⟨c63, 2, [(.c 4 3 true)]⟩

/- glidepath/glidepathref04.Determinant -/
def c64_s0 : IC := .ret
def c64_s1 : IC := 
  (.seq 
  (.dreg [⟨some 7, (.ld 3 true (.t 3)), none, []⟩,
    ⟨some 8, (.ld 3 true (.t 4)), none, []⟩,
    ⟨some 9, (.ld 3 true (.t 5)), none, []⟩,
    ⟨some 10, (.call (.f 63) [(.t 8), (.t 9)]), none, []⟩,
    ⟨some 11, (.call (.f 29) [(.t 7), (.t 10)]), none, []⟩,
    ⟨some 6, (.mv (.t 11)), none, []⟩] [[], [], [], [1, 2], [0, 1, 2, 3], [0, 1, 2, 3, 4]] [6] [3, 4, 5]) c64_s0)
def c64 : IC := 
  (.seq 
  (.reg [⟨some 3, (.bx (.t 0)), none, []⟩,
    ⟨some 4, (.bx (.t 1)), none, []⟩,
    ⟨some 5, (.bx (.t 2)), none, []⟩,
    ⟨some 6, (.mv (.c (.i .i64 0))), none, []⟩] [3, 4, 5] []) c64_s1)
def f64 : IF := ⟨c64, 3, [(.t 6)]⟩

/- (glidepath/wind.readings).normal -/
def c65_s0 : IC := .ret
def c65_s1 : IC := 
  (.seq 
  (.reg [⟨some 61, (.ld 12 true (.t 3)), none, []⟩,
    ⟨none, (.st 12 (.t 2) (.t 61)), none, []⟩] [2] [3]) c65_s0)
def c65_s2 : IC := 
  (.reg [⟨some 60, (.bin .add false [] (.t 11) (.c (.i .i64 1))), none, []⟩,
    ⟨some 11, (.mv (.t 60)), none, []⟩] [2, 3, 9, 10, 11] [5, 6])
def c65_s3 : IC := 
  (.reg [⟨some 59, (.bin .add false [] (.t 17) (.c (.i .i64 1))), none, []⟩,
    ⟨some 17, (.mv (.t 59)), none, []⟩] [2, 3, 5, 6, 9, 10, 11, 17] [])
def c65_s4 : IC := 
    (.dreg [⟨some 41, (.mv (.t 7)), none, []⟩,
      ⟨some 42, (.fa 9 (.t 3)), none, []⟩,
      ⟨some 43, (.ixp 3 1 (.t 42) (.t 41)), none, []⟩,
      ⟨some 44, (.ld 1 false (.t 43)), none, []⟩,
      ⟨some 45, (.mv (.t 7)), none, []⟩,
      ⟨some 46, (.ixp 3 1 (.t 6) (.t 45)), none, []⟩,
      ⟨some 47, (.ld 1 false (.t 46)), none, []⟩,
      ⟨some 48, (.fa 3 (.t 5)), none, []⟩,
      ⟨some 49, (.fa 0 (.t 48)), none, []⟩,
      ⟨some 50, (.ld 1 false (.t 49)), none, []⟩,
      ⟨some 51, (.fa 3 (.t 5)), none, []⟩,
      ⟨some 52, (.fa 1 (.t 51)), none, []⟩,
      ⟨some 53, (.ld 1 false (.t 52)), none, []⟩,
      ⟨some 54, (.bin .add false [] (.t 50) (.t 53)), none, []⟩,
      ⟨some 55, (.bin .mul false [] (.t 47) (.t 54)), none, []⟩,
      ⟨some 56, (.bin .add false [] (.t 44) (.t 55)), none, []⟩,
      ⟨some 57, (.fa 9 (.t 3)), none, []⟩,
      ⟨some 58, (.ixp 3 1 (.t 57) (.t 41)), none, []⟩,
      ⟨none, (.st 1 (.t 58) (.t 56)), none, []⟩] [[], [], [0, 1], [0, 1, 2], [], [4], [4, 5], [], [7], [7, 8], [], [10], [10, 11], [7, 8, 9, 10, 11, 12], [4, 5, 6, 7, 8, 9, 10, 11, 12, 13], [0, 1, 2, 3, 4, 5, 6, 7, 8, 9, 10, 11, 12, 13, 14], [], [0, 1, 2, 3, 4, 5, 6, 7, 8, 9, 10, 11, 12, 13, 14, 15, 16], [0, 1, 2, 3, 4, 5, 6, 7, 8, 9, 10, 11, 12, 13, 14, 15, 16, 17]] [2, 3, 5, 6, 9, 10, 11, 17] [])
def c65_b2 : IC := 
  (.seq 
  (.reg [⟨some 21, (.bin .lss false [] (.t 20) (.c (.i .i64 3))), none, []⟩] [2, 3, 5, 6, 7, 9, 10, 11, 17, 20, 21] []) 
  (.seq 
  (.cond (.t 21) .skip (.exit 4)) 
  (.seq 
  (.block 5 
    (.seq 
    (.reg [⟨some 22, (.mv (.t 20)), none, []⟩,
      ⟨some 8, (.mv (.t 22)), none, []⟩] [2, 3, 5, 6, 7, 8, 9, 10, 11, 17, 20] []) 
    (.dreg [⟨some 23, (.mv (.t 7)), none, []⟩,
      ⟨some 24, (.mv (.t 8)), none, []⟩,
      ⟨some 25, (.fa 0 (.t 3)), none, []⟩,
      ⟨some 26, (.ixp 3 3 (.t 25) (.t 23)), none, []⟩,
      ⟨some 27, (.ixp 3 1 (.t 26) (.t 24)), none, []⟩,
      ⟨some 28, (.ld 1 false (.t 27)), none, []⟩,
      ⟨some 29, (.mv (.t 7)), none, []⟩,
      ⟨some 30, (.ixp 3 1 (.t 6) (.t 29)), none, []⟩,
      ⟨some 31, (.ld 1 false (.t 30)), none, []⟩,
      ⟨some 32, (.mv (.t 8)), none, []⟩,
      ⟨some 33, (.ixp 3 1 (.t 6) (.t 32)), none, []⟩,
      ⟨some 34, (.ld 1 false (.t 33)), none, []⟩,
      ⟨some 35, (.bin .mul false [] (.t 31) (.t 34)), none, []⟩,
      ⟨some 36, (.bin .add false [] (.t 28) (.t 35)), none, []⟩,
      ⟨some 37, (.fa 0 (.t 3)), none, []⟩,
      ⟨some 38, (.ixp 3 3 (.t 37) (.t 23)), none, []⟩,
      ⟨some 39, (.ixp 3 1 (.t 38) (.t 24)), none, []⟩,
      ⟨none, (.st 1 (.t 39) (.t 36)), none, []⟩] [[], [], [], [0, 2], [0, 1, 2, 3], [0, 1, 2, 3, 4], [], [6], [6, 7], [], [9], [9, 10], [6, 7, 8, 9, 10, 11], [0, 1, 2, 3, 4, 5, 6, 7, 8, 9, 10, 11, 12], [], [0, 14], [0, 1, 2, 3, 4, 5, 6, 7, 8, 9, 10, 11, 12, 13, 14, 15], [0, 1, 2, 3, 4, 5, 6, 7, 8, 9, 10, 11, 12, 13, 14, 15, 16]] [2, 3, 5, 6, 7, 9, 10, 11, 17, 20] []))) 
  (.reg [⟨some 40, (.bin .add false [] (.t 20) (.c (.i .i64 1))), none, []⟩,
    ⟨some 20, (.mv (.t 40)), none, []⟩] [2, 3, 5, 6, 7, 9, 10, 11, 17, 20] []))))
def c65_b1 : IC := 
  (.seq 
  (.reg [⟨some 18, (.bin .lss false [] (.t 17) (.c (.i .i64 3))), none, []⟩] [2, 3, 5, 6, 9, 10, 11, 17, 18] []) 
  (.seq 
  (.cond (.t 18) .skip (.exit 2)) 
  (.seq 
  (.block 3 
    (.seq 
    (.reg [⟨some 19, (.mv (.t 17)), none, []⟩,
      ⟨some 7, (.mv (.t 19)), none, []⟩] [2, 3, 5, 6, 7, 9, 10, 11, 17] []) 
    (.seq 
    (.seq 
    (.reg [⟨some 20, (.mv (.c (.i .i64 0))), none, []⟩] [2, 3, 5, 6, 7, 9, 10, 11, 17, 20] []) 
    (.block 4 (.loop c65_b2))) c65_s4))) c65_s3)))
def c65_b0 : IC := 
  (.seq 
  (.reg [⟨some 12, (.bin .lss false [] (.t 11) (.t 10)), none, []⟩] [2, 3, 9, 10, 11, 12] []) 
  (.seq 
  (.cond (.t 12) .skip (.exit 0)) 
  (.seq 
  (.block 1 
    (.seq 
    (.reg [⟨some 13, (.ixs 5 (.t 9) (.t 11)), none, []⟩,
      ⟨some 14, (.ld 5 true (.t 13)), none, []⟩,
      ⟨some 5, (.al [(.i .i64 0), (.i .i64 0), (.i .i64 0), (.i .i64 0), (.i .i64 0)]), none, []⟩,
      ⟨none, (.st 5 (.t 5) (.t 14)), none, []⟩] [2, 3, 5, 9, 10, 11] []) 
    (.seq 
    (.reg [⟨some 15, (.fa 0 (.t 5)), none, []⟩,
      ⟨some 16, (.ld 3 true (.t 15)), none, []⟩,
      ⟨some 6, (.al [(.i .i64 0), (.i .i64 0), (.i .i64 0)]), none, []⟩,
      ⟨none, (.st 3 (.t 6) (.t 16)), none, []⟩] [2, 3, 5, 6, 9, 10, 11] []) 
    (.seq 
    (.reg [⟨some 17, (.mv (.c (.i .i64 0))), none, []⟩] [2, 3, 5, 6, 9, 10, 11, 17] []) 
    (.block 2 (.loop c65_b1)))))) c65_s2)))
def c65_s5 : IC := 
  (.seq 
  (.seq 
  (.reg [⟨some 9, (.mv (.t 0)), none, []⟩,
    ⟨some 10, (.len false (.t 9)), none, []⟩,
    ⟨some 11, (.mv (.c (.i .i64 0))), none, []⟩] [2, 3, 9, 10, 11] []) 
  (.block 0 (.loop c65_b0))) c65_s1)
def c65_s6 : IC := 
  (.seq 
  (.reg [⟨some 3, (.al [(.i .i64 0), (.i .i64 0), (.i .i64 0), (.i .i64 0), (.i .i64 0), (.i .i64 0), (.i .i64 0), (.i .i64 0), (.i .i64 0), (.i .i64 0), (.i .i64 0), (.i .i64 0)]), none, []⟩] [0, 2, 3] []) c65_s5)
def c65 : IC := 
  (.seq 
  (.reg [⟨some 2, (.al [(.i .i64 0), (.i .i64 0), (.i .i64 0), (.i .i64 0), (.i .i64 0), (.i .i64 0), (.i .i64 0), (.i .i64 0), (.i .i64 0), (.i .i64 0), (.i .i64 0), (.i .i64 0)]), none, []⟩] [0, 2] []) c65_s6)
def f65 : IF := ⟨c65, 1, [(.c 2 12 true)]⟩
def c65_k2 {R : Type} (H : Hk R) (Y : Yt R) (dp : Nat) (K : Ex → Env → Mem → Option R) : Ex → Env → Mem → Option R := (kBlk 4 (kSeq (fun env mem k => evC H Y c65_s4 dp env mem k) (kBlk 3 (kSeq (fun env mem k => evC H Y c65_s3 dp env mem k) K))))
def c65_k1 {R : Type} (H : Hk R) (Y : Yt R) (dp : Nat) (K : Ex → Env → Mem → Option R) : Ex → Env → Mem → Option R := (kBlk 2 (kBlk 1 (kSeq (fun env mem k => evC H Y c65_s2 dp env mem k) K)))
def c65_k0 {R : Type} (H : Hk R) (Y : Yt R) (dp : Nat) (K : Ex → Env → Mem → Option R) : Ex → Env → Mem → Option R := (kBlk 0 (kSeq (fun env mem k => evC H Y c65_s1 dp env mem k) K))

/- (glidepath/wind.equations).solved -/
def c66_s0 : IC := .ret
def c66_s1 : IC := 
  (.seq 
  (.dreg [⟨some 51, (.ixp 3 1 (.t 6) (.c (.i .i64 0))), none, []⟩,
    ⟨some 52, (.ld 1 false (.t 51)), none, []⟩,
    ⟨some 53, (.mv (.t 10)), none, []⟩,
    ⟨some 54, (.bin .quo false [] (.t 52) (.t 53)), none, []⟩,
    ⟨some 55, (.ixp 3 1 (.t 6) (.c (.i .i64 1))), none, []⟩,
    ⟨some 56, (.ld 1 false (.t 55)), none, []⟩,
    ⟨some 57, (.mv (.t 10)), none, []⟩,
    ⟨some 58, (.bin .quo false [] (.t 56) (.t 57)), none, []⟩,
    ⟨some 59, (.ixp 3 1 (.t 6) (.c (.i .i64 2))), none, []⟩,
    ⟨some 60, (.ld 1 false (.t 59)), none, []⟩,
    ⟨some 61, (.mv (.t 10)), none, []⟩,
    ⟨some 62, (.bin .quo false [] (.t 60) (.t 61)), none, []⟩,
    ⟨some 63, (.mv (.t 5)), none, []⟩,
    ⟨some 64, (.mv (.t 10)), none, []⟩,
    ⟨some 65, (.bin .quo false [] (.t 63) (.t 64)), none, []⟩,
    ⟨some 66, (.bd [(.i .i64 0), (.i .i64 0), (.i .i64 0), (.i .i64 0)] [(0, 1, (.t 54)), (1, 1, (.t 58)), (2, 1, (.t 62)), (3, 1, (.t 65))]), none, []⟩,
    ⟨none, (.st 4 (.t 4) (.t 66)), none, []⟩] [[], [0], [], [0, 1, 2], [], [4], [], [4, 5, 6], [], [8], [], [8, 9, 10], [], [], [12, 13], [0, 1, 2, 3, 4, 5, 6, 7, 8, 9, 10, 11, 12, 13, 14], [0, 1, 2, 3, 4, 5, 6, 7, 8, 9, 10, 11, 12, 13, 14, 15]] [4] [6]) c66_s0)
def c66_s2 : IC := 
  (.seq 
  (.seq 
  (.reg [⟨some 47, (.mv (.t 5)), none, []⟩,
    ⟨some 48, (.bin .lss false [] (.t 47) (.c (.i .i64 0))), none, []⟩] [4, 5, 6, 10, 48] []) 
  (.cond (.t 48) 
    (.reg [⟨some 49, (.mv (.t 10)), none, []⟩,
      ⟨some 50, (.un .neg (.t 49)), none, []⟩,
      ⟨some 10, (.mv (.t 50)), none, []⟩] [4, 5, 6, 10] []) .skip)) c66_s1)
def c66_s3 : IC := 
  (.seq 
  (.reg [⟨some 38, (.mv (.t 5)), none, []⟩,
    ⟨some 39, (.ixp 3 1 (.t 6) (.c (.i .i64 0))), none, []⟩,
    ⟨some 40, (.ld 1 false (.t 39)), none, []⟩,
    ⟨some 41, (.ixp 3 1 (.t 6) (.c (.i .i64 1))), none, []⟩,
    ⟨some 42, (.ld 1 false (.t 41)), none, []⟩,
    ⟨some 43, (.ixp 3 1 (.t 6) (.c (.i .i64 2))), none, []⟩,
    ⟨some 44, (.ld 1 false (.t 43)), none, []⟩,
    ⟨some 45, (.bsl (.int .i64) false [(.t 38), (.t 40), (.t 42), (.t 44)]), none, []⟩,
    ⟨some 46, (.call (.f 100) [(.t 45)]), none, []⟩,
    ⟨some 10, (.mv (.t 46)), none, []⟩] [4, 5, 6, 10] [2]) c66_s2)
def c66_s4 : IC := 
  (.reg [⟨some 37, (.bin .add false [] (.t 16) (.c (.i .i64 1))), none, []⟩,
    ⟨some 16, (.mv (.t 37)), none, []⟩] [2, 4, 5, 6, 16] [])
def c66_s5 : IC := 
    (.reg [⟨some 33, (.mv (.t 7)), none, []⟩,
      ⟨some 34, (.ld 9 true (.t 8)), none, []⟩,
      ⟨some 35, (.call (.f 69) [(.t 34)]), none, []⟩,
      ⟨some 36, (.ixp 3 1 (.t 6) (.t 33)), none, []⟩,
      ⟨none, (.st 1 (.t 36) (.t 35)), none, []⟩] [2, 4, 5, 6, 16] [8])
def c66_b1 : IC := 
  (.seq 
  (.reg [⟨some 22, (.bin .lss false [] (.t 21) (.c (.i .i64 3))), none, []⟩] [2, 4, 5, 6, 7, 8, 16, 21, 22] []) 
  (.seq 
  (.cond (.t 22) .skip (.exit 2)) 
  (.seq 
  (.block 3 
    (.seq 
    (.reg [⟨some 23, (.mv (.t 21)), none, []⟩,
      ⟨some 9, (.mv (.t 23)), none, []⟩] [2, 4, 5, 6, 7, 8, 9, 16, 21] []) 
    (.dreg [⟨some 24, (.mv (.t 9)), none, []⟩,
      ⟨some 25, (.mv (.t 7)), none, []⟩,
      ⟨some 26, (.mv (.t 9)), none, []⟩,
      ⟨some 27, (.fa 9 (.t 2)), none, []⟩,
      ⟨some 28, (.ixp 3 1 (.t 27) (.t 26)), none, []⟩,
      ⟨some 29, (.ld 1 false (.t 28)), none, []⟩,
      ⟨some 30, (.ixp 3 3 (.t 8) (.t 24)), none, []⟩,
      ⟨some 31, (.ixp 3 1 (.t 30) (.t 25)), none, []⟩,
      ⟨none, (.st 1 (.t 31) (.t 29)), none, []⟩] [[], [], [], [], [2, 3], [2, 3, 4], [0], [0, 1, 2, 3, 4, 5, 6], [0, 1, 2, 3, 4, 5, 6, 7]] [2, 4, 5, 6, 7, 8, 16, 21] []))) 
  (.reg [⟨some 32, (.bin .add false [] (.t 21) (.c (.i .i64 1))), none, []⟩,
    ⟨some 21, (.mv (.t 32)), none, []⟩] [2, 4, 5, 6, 7, 8, 16, 21] []))))
def c66_b0 : IC := 
  (.seq 
  (.reg [⟨some 17, (.bin .lss false [] (.t 16) (.c (.i .i64 3))), none, []⟩] [2, 4, 5, 6, 16, 17] []) 
  (.seq 
  (.cond (.t 17) .skip (.exit 0)) 
  (.seq 
  (.block 1 
    (.seq 
    (.reg [⟨some 18, (.mv (.t 16)), none, []⟩,
      ⟨some 7, (.mv (.t 18)), none, []⟩] [2, 4, 5, 6, 7, 16] []) 
    (.seq 
    (.reg [⟨some 19, (.fa 0 (.t 2)), none, []⟩,
      ⟨some 20, (.ld 9 true (.t 19)), none, []⟩,
      ⟨some 8, (.al [(.i .i64 0), (.i .i64 0), (.i .i64 0), (.i .i64 0), (.i .i64 0), (.i .i64 0), (.i .i64 0), (.i .i64 0), (.i .i64 0)]), none, []⟩,
      ⟨none, (.st 9 (.t 8) (.t 20)), none, []⟩] [2, 4, 5, 6, 7, 8, 16] []) 
    (.seq 
    (.seq 
    (.reg [⟨some 21, (.mv (.c (.i .i64 0))), none, []⟩] [2, 4, 5, 6, 7, 8, 16, 21] []) 
    (.block 2 (.loop c66_b1))) c66_s5)))) c66_s4)))
def c66_s6 : IC := 
  (.seq 
  (.seq 
  (.reg [⟨some 16, (.mv (.c (.i .i64 0))), none, []⟩] [2, 4, 5, 6, 16] []) 
  (.block 0 (.loop c66_b0))) c66_s3)
def c66_s7 : IC := 
  (.seq 
  (.reg [⟨some 6, (.al [(.i .i64 0), (.i .i64 0), (.i .i64 0)]), none, []⟩] [2, 4, 5, 6] []) c66_s6)
def c66_s8 : IC := 
  (.seq 
  (.reg [⟨some 11, (.mv (.t 1)), none, []⟩,
    ⟨some 12, (.fa 0 (.t 2)), none, []⟩,
    ⟨some 13, (.ld 9 true (.t 12)), none, []⟩,
    ⟨some 14, (.call (.f 69) [(.t 13)]), none, []⟩,
    ⟨some 15, (.bin .mul false [] (.t 11) (.t 14)), none, []⟩,
    ⟨some 5, (.mv (.t 15)), none, []⟩] [2, 4, 5] []) c66_s7)
def c66 : IC := 
  (.seq 
  (.reg [⟨some 2, (.bx (.t 0)), none, []⟩,
    ⟨some 4, (.al [(.i .i64 0), (.i .i64 0), (.i .i64 0), (.i .i64 0)]), none, []⟩] [1, 2, 4] []) c66_s8)
def f66 : IF := ⟨c66, 2, [(.c 4 4 true)]⟩
def c66_k1 {R : Type} (H : Hk R) (Y : Yt R) (dp : Nat) (K : Ex → Env → Mem → Option R) : Ex → Env → Mem → Option R := (kBlk 2 (kSeq (fun env mem k => evC H Y c66_s5 dp env mem k) (kBlk 1 (kSeq (fun env mem k => evC H Y c66_s4 dp env mem k) K))))
def c66_k0 {R : Type} (H : Hk R) (Y : Yt R) (dp : Nat) (K : Ex → Env → Mem → Option R) : Ex → Env → Mem → Option R := (kBlk 0 (kSeq (fun env mem k => evC H Y c66_s3 dp env mem k) K))

/- glidepath/wind.parts -/
def c67_s0 : IC := .ret
def c67_s1 : IC := 
  (.seq 
  (.reg [⟨some 3, (.fa 0 (.t 1)), none, []⟩,
    ⟨some 4, (.ld 1 false (.t 3)), none, []⟩,
    ⟨some 5, (.fa 1 (.t 1)), none, []⟩,
    ⟨some 6, (.ld 1 false (.t 5)), none, []⟩,
    ⟨some 7, (.fa 2 (.t 1)), none, []⟩,
    ⟨some 8, (.ld 1 false (.t 7)), none, []⟩,
    ⟨some 9, (.bd [(.i .i64 0), (.i .i64 0), (.i .i64 0)] [(0, 1, (.t 4)), (1, 1, (.t 6)), (2, 1, (.t 8))]), none, []⟩,
    ⟨none, (.st 3 (.t 2) (.t 9)), none, []⟩] [2] [1]) c67_s0)
def c67 : IC := 
  (.seq 
  (.reg [⟨some 1, (.bx (.t 0)), none, []⟩,
    ⟨some 2, (.al [(.i .i64 0), (.i .i64 0), (.i .i64 0)]), none, []⟩] [1, 2] []) c67_s1)
def f67 : IF := ⟨c67, 1, [(.c 2 3 true)]⟩

/- (glidepath/wind.vector).dot -/
def c68_s0 : IC := .ret
def c68_s1 : IC := 
  (.seq 
  (.reg [⟨some 5, (.ixp 3 1 (.t 2) (.c (.i .i64 0))), none, []⟩,
    ⟨some 6, (.ld 1 false (.t 5)), none, []⟩,
    ⟨some 7, (.ixp 3 1 (.t 3) (.c (.i .i64 0))), none, []⟩,
    ⟨some 8, (.ld 1 false (.t 7)), none, []⟩,
    ⟨some 9, (.bin .mul false [] (.t 6) (.t 8)), none, []⟩,
    ⟨some 10, (.ixp 3 1 (.t 2) (.c (.i .i64 1))), none, []⟩,
    ⟨some 11, (.ld 1 false (.t 10)), none, []⟩,
    ⟨some 12, (.ixp 3 1 (.t 3) (.c (.i .i64 1))), none, []⟩,
    ⟨some 13, (.ld 1 false (.t 12)), none, []⟩,
    ⟨some 14, (.bin .mul false [] (.t 11) (.t 13)), none, []⟩,
    ⟨some 15, (.bin .add false [] (.t 9) (.t 14)), none, []⟩,
    ⟨some 16, (.ixp 3 1 (.t 2) (.c (.i .i64 2))), none, []⟩,
    ⟨some 17, (.ld 1 false (.t 16)), none, []⟩,
    ⟨some 18, (.ixp 3 1 (.t 3) (.c (.i .i64 2))), none, []⟩,
    ⟨some 19, (.ld 1 false (.t 18)), none, []⟩,
    ⟨some 20, (.bin .mul false [] (.t 17) (.t 19)), none, []⟩,
    ⟨some 21, (.bin .add false [] (.t 15) (.t 20)), none, []⟩,
    ⟨some 4, (.mv (.t 21)), none, []⟩] [4] [2, 3]) c68_s0)
def c68 : IC := 
  (.seq 
  (.reg [⟨some 2, (.bx (.t 0)), none, []⟩,
    ⟨some 3, (.bx (.t 1)), none, []⟩,
    ⟨some 4, (.mv (.c (.i .i64 0))), none, []⟩] [2, 3] []) c68_s1)
def f68 : IF := ⟨c68, 2, [(.t 4)]⟩

/- glidepath/wind.determinant -/
def c69_s0 : IC := .ret
def c69_s1 : IC := 
  (.seq 
  (.dreg [⟨some 3, (.ixp 3 3 (.t 1) (.c (.i .i64 0))), none, []⟩,
    ⟨some 4, (.ld 3 true (.t 3)), none, []⟩,
    ⟨some 5, (.ixp 3 3 (.t 1) (.c (.i .i64 1))), none, []⟩,
    ⟨some 6, (.ld 3 true (.t 5)), none, []⟩,
    ⟨some 7, (.ixp 3 3 (.t 1) (.c (.i .i64 2))), none, []⟩,
    ⟨some 8, (.ld 3 true (.t 7)), none, []⟩,
    ⟨some 9, (.call (.f 78) [(.t 6), (.t 8)]), none, []⟩,
    ⟨some 10, (.call (.f 68) [(.t 4), (.t 9)]), none, []⟩,
    ⟨some 2, (.mv (.t 10)), none, []⟩] [[], [0], [], [2], [], [4], [2, 3, 4, 5], [0, 1, 2, 3, 4, 5, 6], [0, 1, 2, 3, 4, 5, 6, 7]] [2] [1]) c69_s0)
def c69 : IC := 
  (.seq 
  (.reg [⟨some 1, (.bx (.t 0)), none, []⟩,
    ⟨some 2, (.mv (.c (.i .i64 0))), none, []⟩] [1] []) c69_s1)
def f69 : IF := ⟨c69, 1, [(.t 2)]⟩

/- glidepath/wind.frac -/
def c70_s0 : IC := .ret
def c70_s1 : IC := 
  (.seq 
  (.dreg [⟨some 14, (.mv (.t 0)), none, []⟩,
    ⟨some 15, (.mv (.t 5)), none, []⟩,
    ⟨some 16, (.bin .quo false [] (.t 14) (.t 15)), none, []⟩,
    ⟨some 17, (.mv (.t 1)), none, []⟩,
    ⟨some 18, (.mv (.t 5)), none, []⟩,
    ⟨some 19, (.bin .quo false [] (.t 17) (.t 18)), none, []⟩,
    ⟨some 20, (.bd [(.i .i64 0), (.i .i64 0)] [(0, 1, (.t 16)), (1, 1, (.t 19))]), none, []⟩,
    ⟨none, (.st 2 (.t 4) (.t 20)), none, []⟩] [[], [], [0, 1], [], [], [3, 4], [0, 1, 2, 3, 4, 5], [0, 1, 2, 3, 4, 5, 6]] [4] []) c70_s0)
def c70_s2 : IC := 
  (.seq 
  (.seq 
  (.reg [⟨some 10, (.mv (.t 1)), none, []⟩,
    ⟨some 11, (.bin .lss false [] (.t 10) (.c (.i .i64 0))), none, []⟩] [0, 1, 4, 5, 11] []) 
  (.cond (.t 11) 
    (.reg [⟨some 12, (.mv (.t 5)), none, []⟩,
      ⟨some 13, (.un .neg (.t 12)), none, []⟩,
      ⟨some 5, (.mv (.t 13)), none, []⟩] [0, 1, 4, 5] []) .skip)) c70_s1)
def c70_s3 : IC := 
  (.seq 
  (.reg [⟨some 6, (.mv (.t 0)), none, []⟩,
    ⟨some 7, (.mv (.t 1)), none, []⟩,
    ⟨some 8, (.bsl (.int .i64) false [(.t 6), (.t 7)]), none, []⟩,
    ⟨some 9, (.call (.f 100) [(.t 8)]), none, []⟩,
    ⟨some 5, (.mv (.t 9)), none, []⟩] [0, 1, 4, 5] []) c70_s2)
def c70 : IC := 
  (.seq 
  (.reg [⟨some 4, (.al [(.i .i64 0), (.i .i64 0)]), none, []⟩] [0, 1, 4] []) c70_s3)
def f70 : IF := ⟨c70, 2, [(.c 4 2 true)]⟩

end Go.Ge
