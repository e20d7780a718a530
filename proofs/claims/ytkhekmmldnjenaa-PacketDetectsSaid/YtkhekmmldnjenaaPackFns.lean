/- The functions of the program in compact form, as 'sfn.py' prints them; each is what 'stripFn' makes of the program's own. -/
import Derived.Test.YtkhekmmldnjenaaEng2
import Derived.Test.YtkhekmmldnjenaaProg
namespace Go.Proofs.Ytkhekmmldnjenaa
namespace VS

def kd : FuncId → Kind
  | 21 => .keep
  | 22 => .guard
  | 24 => .guard
  | 31 => .keep
  | 38 => .keep
  | 39 => .grow
  | 40 => .keep
  | 41 => .keep
  | 42 => .keep
  | 43 => .keep
  | 44 => .keep
  | 45 => .catch 3 2
  | 46 => .whole
  | 47 => .whole
  | 48 => .whole
  | 49 => .whole
  | 50 => .whole
  | 51 => .whole
  | 57 => .catch 3 2
  | 58 => .whole
  | 64 => .keep
  | 65 => .keep
  | 67 => .grow
  | 69 => .whole
  | 70 => .whole
  | 72 => .whole
  | 74 => .whole
  | 76 => .whole
  | 81 => .whole
  | 86 => .whole
  | 90 => .whole
  | 92 => .whole
  | 93 => .whole
  | 94 => .whole
  | 96 => .whole
  | 99 => .whole
  | 100 => .whole
  | 103 => .whole
  | 104 => .whole
  | 105 => .whole
  | 1000009 => .fresh
  | _ => .plain

/- standby/standbylaw25.PacketChecks -/
def s3 : SFn := 
  ⟨.plain, 1, [(.tmp 2)], (.seq [1] (.region [⟨(some 1), none, (.box (.t 0))⟩,
    ⟨(some 2), none, (.mv (.c (.v (.bool false))))⟩] false) (.seq [1] (.seq [1, 5] (.region [⟨(some 3), none, (.load (some 7) (.t 1))⟩,
    ⟨(some 4), none, (.call (.c (.fn 11 [])) [(.t 3)])⟩,
    ⟨(some 5), none, (.un .not (.t 4))⟩] false) (.cond (.t 5) (.seq [2] (.region [⟨(some 6), none, (.call (.c (.fn 12 [])) [])⟩,
    ⟨(some 2), none, (.mv (.t 6))⟩] false) .ret) .skip)) (.seq [2] (.region [⟨(some 7), none, (.load (some 7) (.t 1))⟩,
    ⟨(some 8), none, (.call (.c (.fn 13 [])) [(.t 7)])⟩,
    ⟨(some 9), none, (.load (some 7) (.t 1))⟩,
    ⟨(some 10), none, (.call (.c (.fn 14 [])) [(.t 9)])⟩,
    ⟨(some 11), none, (.bin .eql .none (.t 8) (.t 10))⟩,
    ⟨(some 12), none, (.mv (.t 11))⟩,
    ⟨(some 13), (some (12, true)), (.load (some 7) (.t 1))⟩,
    ⟨(some 14), (some (12, true)), (.call (.c (.fn 16 [])) [(.t 13)])⟩,
    ⟨(some 15), (some (12, true)), (.load (some 7) (.t 1))⟩,
    ⟨(some 16), (some (12, true)), (.call (.c (.fn 17 [])) [(.t 15)])⟩,
    ⟨(some 17), (some (12, true)), (.call (.c (.fn 15 [])) [(.t 14), (.t 16)])⟩,
    ⟨(some 18), none, (.pick (.t 12) (.t 17) (.c (.v (.bool false))))⟩,
    ⟨(some 19), none, (.mv (.t 18))⟩,
    ⟨(some 20), (some (19, true)), (.call (.c (.fn 12 [])) [])⟩,
    ⟨(some 21), none, (.pick (.t 19) (.t 20) (.c (.v (.bool false))))⟩,
    ⟨(some 2), none, (.mv (.t 21))⟩] true) .ret)))⟩
/- standby/standbylaw25.PacketEncodes -/
def s4 : SFn := 
  ⟨.plain, 1, [(.tmp 2)], (.seq [1] (.region [⟨(some 1), none, (.box (.t 0))⟩,
    ⟨(some 2), none, (.mv (.c (.v (.bool false))))⟩] false) (.seq [1] (.seq [1, 9] (.region [⟨(some 7), none, (.load (some 7) (.t 1))⟩,
    ⟨(some 8), none, (.call (.c (.fn 11 [])) [(.t 7)])⟩,
    ⟨(some 9), none, (.un .not (.t 8))⟩] false) (.cond (.t 9) (.seq [2] (.region [⟨(some 10), none, (.call (.c (.fn 12 [])) [])⟩,
    ⟨(some 2), none, (.mv (.t 10))⟩] false) .ret) .skip)) (.seq [1, 3, 4] (.region [⟨(some 12), none, (.load (some 7) (.t 1))⟩,
    ⟨(some 13), none, (.call (.c (.fn 18 [])) [(.t 12)])⟩,
    ⟨(some 11), none, (.mv (.t 13))⟩,
    ⟨(some 14), none, (.extract (.t 11) 0)⟩,
    ⟨(some 15), none, (.extract (.t 11) 1)⟩,
    ⟨(some 3), none, (.mv (.t 14))⟩,
    ⟨(some 4), none, (.mv (.t 15))⟩] false) (.seq [3, 4, 5, 6] (.region [⟨(some 17), none, (.load (some 7) (.t 1))⟩,
    ⟨(some 18), none, (.call (.c (.fn 19 [])) [(.t 17)])⟩,
    ⟨(some 16), none, (.mv (.t 18))⟩,
    ⟨(some 19), none, (.extract (.t 16) 0)⟩,
    ⟨(some 20), none, (.extract (.t 16) 1)⟩,
    ⟨(some 5), none, (.mv (.t 19))⟩,
    ⟨(some 6), none, (.mv (.t 20))⟩] false) (.seq [2] (.region [⟨(some 21), none, (.mv (.t 3))⟩,
    ⟨(some 22), none, (.mv (.t 5))⟩,
    ⟨(some 23), none, (.call (.c (.fn 20 [])) [(.t 21), (.t 22)])⟩,
    ⟨(some 24), none, (.mv (.t 23))⟩,
    ⟨(some 25), (some (24, true)), (.mv (.t 4))⟩,
    ⟨(some 26), (some (24, true)), (.mv (.t 6))⟩,
    ⟨(some 27), (some (24, true)), (.bin .eql .none (.t 25) (.t 26))⟩,
    ⟨(some 28), none, (.pick (.t 24) (.t 27) (.c (.v (.bool false))))⟩,
    ⟨(some 29), none, (.mv (.t 28))⟩,
    ⟨(some 30), (some (29, true)), (.call (.c (.fn 12 [])) [])⟩,
    ⟨(some 31), none, (.pick (.t 29) (.t 30) (.c (.v (.bool false))))⟩,
    ⟨(some 2), none, (.mv (.t 31))⟩] false) .ret)))))⟩
/- standby/standbylaw25.PacketDecodes -/
def s5b0 : SCode := 
  (.seq [20, 21, 22, 23] (.region [⟨(some 23), none, (.bin .lss .none (.t 22) (.t 21))⟩] false) (.seq [20, 21, 22] (.cond (.t 23) .skip (.exit 0)) (.seq [20, 21, 22] (.block 1 (.seq [4, 20, 21, 22] (.region [⟨(some 24), none, (.iaddr 1 none (.t 20) (.t 22))⟩,
    ⟨(some 25), none, (.load none (.t 24))⟩,
    ⟨(some 4), none, (.mv (.t 25))⟩] false) (.seq [4, 5, 6, 20, 21, 22] (.region [⟨(some 27), none, (.mv (.t 4))⟩,
    ⟨(some 28), none, (.call (.c (.fn 22 [])) [(.t 27)])⟩,
    ⟨(some 26), none, (.mv (.t 28))⟩,
    ⟨(some 29), none, (.extract (.t 26) 0)⟩,
    ⟨(some 30), none, (.extract (.t 26) 1)⟩,
    ⟨(some 5), none, (.alloc [(.v (.int .i64 0)), (.v (.int .i64 0)), (.v (.int .i64 0)), (.v (.int .i64 0)), (.v (.int .i64 0)), (.v (.slice none 0 0)), (.v (.slice none 0 0))])⟩,
    ⟨none, none, (.store 7 (.t 5) (.t 29))⟩,
    ⟨(some 6), none, (.mv (.t 30))⟩] false) (.seq [4, 5, 6, 7, 8, 20, 21, 22] (.region [⟨(some 32), none, (.mv (.t 4))⟩,
    ⟨(some 33), none, (.call (.c (.fn 23 [])) [(.t 32)])⟩,
    ⟨(some 31), none, (.mv (.t 33))⟩,
    ⟨(some 34), none, (.extract (.t 31) 0)⟩,
    ⟨(some 35), none, (.extract (.t 31) 1)⟩,
    ⟨(some 7), none, (.alloc [(.v (.int .i64 0)), (.v (.int .i64 0)), (.v (.int .i64 0)), (.v (.int .i64 0)), (.v (.int .i64 0)), (.v (.slice none 0 0)), (.v (.slice none 0 0))])⟩,
    ⟨none, none, (.store 7 (.t 7) (.t 34))⟩,
    ⟨(some 8), none, (.mv (.t 35))⟩] false) (.seq [4, 5, 6, 7, 8, 9, 10, 20, 21, 22] (.region [⟨(some 37), none, (.mv (.t 4))⟩,
    ⟨(some 38), none, (.call (.c (.fn 24 [])) [(.t 37)])⟩,
    ⟨(some 36), none, (.mv (.t 38))⟩,
    ⟨(some 39), none, (.extract (.t 36) 0)⟩,
    ⟨(some 40), none, (.extract (.t 36) 1)⟩,
    ⟨(some 9), none, (.alloc [(.v (.int .i64 0)), (.v (.int .i64 0)), (.v (.int .i64 0)), (.v (.int .i64 0)), (.v (.int .i64 0)), (.v (.int .i64 0)), (.v (.slice none 0 0)), (.v (.slice none 0 0))])⟩,
    ⟨none, none, (.store 8 (.t 9) (.t 39))⟩,
    ⟨(some 10), none, (.mv (.t 40))⟩] false) (.seq [5, 6, 7, 8, 9, 10, 11, 12, 20, 21, 22] (.region [⟨(some 42), none, (.mv (.t 4))⟩,
    ⟨(some 43), none, (.call (.c (.fn 25 [])) [(.t 42)])⟩,
    ⟨(some 41), none, (.mv (.t 43))⟩,
    ⟨(some 44), none, (.extract (.t 41) 0)⟩,
    ⟨(some 45), none, (.extract (.t 41) 1)⟩,
    ⟨(some 11), none, (.alloc [(.v (.int .i64 0)), (.v (.int .i64 0)), (.v (.int .i64 0)), (.v (.int .i64 0)), (.v (.int .i64 0)), (.v (.int .i64 0)), (.v (.slice none 0 0)), (.v (.slice none 0 0))])⟩,
    ⟨none, none, (.store 8 (.t 11) (.t 44))⟩,
    ⟨(some 12), none, (.mv (.t 45))⟩] false) (.seq [20, 21, 22, 65] (.region [⟨(some 46), none, (.load (some 7) (.t 5))⟩,
    ⟨(some 47), none, (.load (some 7) (.t 7))⟩,
    ⟨(some 48), none, (.call (.c (.fn 26 [])) [(.t 46), (.t 47)])⟩,
    ⟨(some 49), none, (.un .not (.t 48))⟩,
    ⟨(some 50), none, (.mv (.t 49))⟩,
    ⟨(some 51), (some (50, false)), (.mv (.t 6))⟩,
    ⟨(some 52), (some (50, false)), (.mv (.t 8))⟩,
    ⟨(some 53), (some (50, false)), (.bin .neq .none (.t 51) (.t 52))⟩,
    ⟨(some 54), none, (.pick (.t 50) (.c (.v (.bool true))) (.t 53))⟩,
    ⟨(some 55), none, (.mv (.t 54))⟩,
    ⟨(some 56), (some (55, false)), (.load (some 8) (.t 9))⟩,
    ⟨(some 57), (some (55, false)), (.load (some 8) (.t 11))⟩,
    ⟨(some 58), (some (55, false)), (.call (.c (.fn 27 [])) [(.t 56), (.t 57)])⟩,
    ⟨(some 59), (some (55, false)), (.un .not (.t 58))⟩,
    ⟨(some 60), none, (.pick (.t 55) (.c (.v (.bool true))) (.t 59))⟩,
    ⟨(some 61), none, (.mv (.t 60))⟩,
    ⟨(some 62), (some (61, false)), (.mv (.t 10))⟩,
    ⟨(some 63), (some (61, false)), (.mv (.t 12))⟩,
    ⟨(some 64), (some (61, false)), (.bin .neq .none (.t 62) (.t 63))⟩,
    ⟨(some 65), none, (.pick (.t 61) (.c (.v (.bool true))) (.t 64))⟩] false) (.cond (.t 65) (.seq [2] (.region [⟨(some 2), none, (.mv (.c (.v (.bool false))))⟩] false) .ret) .skip)))))))) (.region [⟨(some 66), none, (.bin .add .none (.t 22) (.c (.v (.int .i64 1))))⟩,
    ⟨(some 22), none, (.mv (.t 66))⟩] false))))
def s5 : SFn := 
  ⟨.plain, 1, [(.tmp 2)], (.seq [0] (.region [⟨(some 2), none, (.mv (.c (.v (.bool false))))⟩] false) (.seq [0] (.seq [0, 15] (.region [⟨(some 13), none, (.mv (.t 0))⟩,
    ⟨(some 14), none, (.len (.t 13))⟩,
    ⟨(some 15), none, (.bin .gtr .none (.t 14) (.c (.v (.int .i64 1000))))⟩] false) (.cond (.t 15) (.seq [2] (.region [⟨(some 16), none, (.call (.c (.fn 12 [])) [])⟩,
    ⟨(some 2), none, (.mv (.t 16))⟩] false) .ret) .skip)) (.seq [] (.seq [20, 21, 22] (.region [⟨(some 17), none, (.mv (.t 0))⟩,
    ⟨(some 18), none, (.mv (.t 0))⟩,
    ⟨(some 19), none, (.call (.c (.fn 21 [])) [(.t 18)])⟩,
    ⟨(some 20), none, (.bslice [(.v (.slice none 0 0))] 2 [(0, (1, (.t 17))), (1, (1, (.t 19)))])⟩,
    ⟨(some 21), none, (.len (.t 20))⟩,
    ⟨(some 22), none, (.mv (.c (.v (.int .i64 0))))⟩] false) (.block 0 (.loop [20, 21, 22] s5b0))) (.seq [2] (.region [⟨(some 67), none, (.call (.c (.fn 12 [])) [])⟩,
    ⟨(some 2), none, (.mv (.t 67))⟩] false) .ret))))⟩
/- standby/standbylaw25.PacketMessages -/
def s6 : SFn := 
  ⟨.plain, 1, [(.tmp 2)], (.seq [1] (.region [⟨(some 1), none, (.box (.t 0))⟩,
    ⟨(some 2), none, (.mv (.c (.v (.bool false))))⟩] false) (.seq [1] (.seq [1, 9] (.region [⟨(some 7), none, (.load (some 8) (.t 1))⟩,
    ⟨(some 8), none, (.call (.c (.fn 28 [])) [(.t 7)])⟩,
    ⟨(some 9), none, (.un .not (.t 8))⟩] false) (.cond (.t 9) (.seq [2] (.region [⟨(some 10), none, (.call (.c (.fn 12 [])) [])⟩,
    ⟨(some 2), none, (.mv (.t 10))⟩] false) .ret) .skip)) (.seq [1, 3, 4] (.region [⟨(some 12), none, (.load (some 8) (.t 1))⟩,
    ⟨(some 13), none, (.call (.c (.fn 29 [])) [(.t 12)])⟩,
    ⟨(some 11), none, (.mv (.t 13))⟩,
    ⟨(some 14), none, (.extract (.t 11) 0)⟩,
    ⟨(some 15), none, (.extract (.t 11) 1)⟩,
    ⟨(some 3), none, (.mv (.t 14))⟩,
    ⟨(some 4), none, (.mv (.t 15))⟩] false) (.seq [3, 4, 5, 6] (.region [⟨(some 17), none, (.load (some 8) (.t 1))⟩,
    ⟨(some 18), none, (.call (.c (.fn 30 [])) [(.t 17)])⟩,
    ⟨(some 16), none, (.mv (.t 18))⟩,
    ⟨(some 19), none, (.extract (.t 16) 0)⟩,
    ⟨(some 20), none, (.extract (.t 16) 1)⟩,
    ⟨(some 5), none, (.mv (.t 19))⟩,
    ⟨(some 6), none, (.mv (.t 20))⟩] false) (.seq [2] (.region [⟨(some 21), none, (.mv (.t 3))⟩,
    ⟨(some 22), none, (.mv (.t 5))⟩,
    ⟨(some 23), none, (.call (.c (.fn 20 [])) [(.t 21), (.t 22)])⟩,
    ⟨(some 24), none, (.mv (.t 23))⟩,
    ⟨(some 25), (some (24, true)), (.mv (.t 4))⟩,
    ⟨(some 26), (some (24, true)), (.mv (.t 6))⟩,
    ⟨(some 27), (some (24, true)), (.bin .eql .none (.t 25) (.t 26))⟩,
    ⟨(some 28), none, (.pick (.t 24) (.t 27) (.c (.v (.bool false))))⟩,
    ⟨(some 29), none, (.mv (.t 28))⟩,
    ⟨(some 30), (some (29, true)), (.call (.c (.fn 12 [])) [])⟩,
    ⟨(some 31), none, (.pick (.t 29) (.t 30) (.c (.v (.bool false))))⟩,
    ⟨(some 2), none, (.mv (.t 31))⟩] false) .ret)))))⟩
/- standby/standbylaw25.PacketBack -/
def s7 : SFn := 
  ⟨.plain, 2, [(.tmp 4)], (.seq [2, 3] (.region [⟨(some 2), none, (.box (.t 0))⟩,
    ⟨(some 3), none, (.box (.t 1))⟩,
    ⟨(some 4), none, (.mv (.c (.v (.bool false))))⟩] false) (.seq [2, 3] (.seq [2, 3, 20] (.region [⟨(some 13), none, (.load (some 7) (.t 2))⟩,
    ⟨(some 14), none, (.call (.c (.fn 11 [])) [(.t 13)])⟩,
    ⟨(some 15), none, (.un .not (.t 14))⟩,
    ⟨(some 16), none, (.mv (.t 15))⟩,
    ⟨(some 17), (some (16, false)), (.load (some 8) (.t 3))⟩,
    ⟨(some 18), (some (16, false)), (.call (.c (.fn 28 [])) [(.t 17)])⟩,
    ⟨(some 19), (some (16, false)), (.un .not (.t 18))⟩,
    ⟨(some 20), none, (.pick (.t 16) (.c (.v (.bool true))) (.t 19))⟩] false) (.cond (.t 20) (.seq [4] (.region [⟨(some 21), none, (.call (.c (.fn 12 [])) [])⟩,
    ⟨(some 4), none, (.mv (.t 21))⟩] false) .ret) .skip)) (.seq [3] (.seq [2, 3, 5, 6] (.region [⟨(some 23), none, (.load (some 7) (.t 2))⟩,
    ⟨(some 24), none, (.call (.c (.fn 18 [])) [(.t 23)])⟩,
    ⟨(some 22), none, (.mv (.t 24))⟩,
    ⟨(some 25), none, (.extract (.t 22) 0)⟩,
    ⟨(some 26), none, (.extract (.t 22) 1)⟩,
    ⟨(some 5), none, (.mv (.t 25))⟩,
    ⟨(some 6), none, (.mv (.t 26))⟩] false) (.seq [2, 3, 5, 6, 28] (.region [⟨(some 27), none, (.mv (.t 6))⟩,
    ⟨(some 28), none, (.bin .eql .none (.t 27) (.c (.v (.int .i64 0))))⟩] false) (.cond (.t 28) (.seq [2, 3, 7, 8] (.region [⟨(some 30), none, (.mv (.t 5))⟩,
    ⟨(some 31), none, (.call (.c (.fn 22 [])) [(.t 30)])⟩,
    ⟨(some 29), none, (.mv (.t 31))⟩,
    ⟨(some 32), none, (.extract (.t 29) 0)⟩,
    ⟨(some 33), none, (.extract (.t 29) 1)⟩,
    ⟨(some 7), none, (.alloc [(.v (.int .i64 0)), (.v (.int .i64 0)), (.v (.int .i64 0)), (.v (.int .i64 0)), (.v (.int .i64 0)), (.v (.slice none 0 0)), (.v (.slice none 0 0))])⟩,
    ⟨none, none, (.store 7 (.t 7) (.t 32))⟩,
    ⟨(some 8), none, (.mv (.t 33))⟩] false) (.seq [3, 41] (.region [⟨(some 34), none, (.mv (.t 8))⟩,
    ⟨(some 35), none, (.bin .neq .none (.t 34) (.c (.v (.int .i64 0))))⟩,
    ⟨(some 36), none, (.mv (.t 35))⟩,
    ⟨(some 37), (some (36, false)), (.load (some 7) (.t 2))⟩,
    ⟨(some 38), (some (36, false)), (.load (some 7) (.t 7))⟩,
    ⟨(some 39), (some (36, false)), (.call (.c (.fn 26 [])) [(.t 37), (.t 38)])⟩,
    ⟨(some 40), (some (36, false)), (.un .not (.t 39))⟩,
    ⟨(some 41), none, (.pick (.t 36) (.c (.v (.bool true))) (.t 40))⟩] false) (.cond (.t 41) (.seq [4] (.region [⟨(some 4), none, (.mv (.c (.v (.bool false))))⟩] false) .ret) .skip))) (.seq [3, 50] (.region [⟨(some 42), none, (.mv (.t 6))⟩,
    ⟨(some 43), none, (.load (some 7) (.t 2))⟩,
    ⟨(some 44), none, (.call (.c (.fn 13 [])) [(.t 43)])⟩,
    ⟨(some 45), none, (.bin .neq .none (.t 42) (.t 44))⟩,
    ⟨(some 46), none, (.mv (.t 45))⟩,
    ⟨(some 47), (some (46, false)), (.mv (.t 5))⟩,
    ⟨(some 48), (some (46, false)), (.len (.t 47))⟩,
    ⟨(some 49), (some (46, false)), (.bin .gtr .none (.t 48) (.c (.v (.int .i64 0))))⟩,
    ⟨(some 50), none, (.pick (.t 46) (.c (.v (.bool true))) (.t 49))⟩] false) (.cond (.t 50) (.seq [4] (.region [⟨(some 4), none, (.mv (.c (.v (.bool false))))⟩] false) .ret) .skip))))) (.seq [] (.seq [3, 9, 10] (.region [⟨(some 52), none, (.load (some 8) (.t 3))⟩,
    ⟨(some 53), none, (.call (.c (.fn 29 [])) [(.t 52)])⟩,
    ⟨(some 51), none, (.mv (.t 53))⟩,
    ⟨(some 54), none, (.extract (.t 51) 0)⟩,
    ⟨(some 55), none, (.extract (.t 51) 1)⟩,
    ⟨(some 9), none, (.mv (.t 54))⟩,
    ⟨(some 10), none, (.mv (.t 55))⟩] false) (.seq [3, 9, 57] (.region [⟨(some 56), none, (.mv (.t 10))⟩,
    ⟨(some 57), none, (.bin .eql .none (.t 56) (.c (.v (.int .i64 0))))⟩] false) (.cond (.t 57) (.seq [3, 11, 12] (.region [⟨(some 59), none, (.mv (.t 9))⟩,
    ⟨(some 60), none, (.call (.c (.fn 24 [])) [(.t 59)])⟩,
    ⟨(some 58), none, (.mv (.t 60))⟩,
    ⟨(some 61), none, (.extract (.t 58) 0)⟩,
    ⟨(some 62), none, (.extract (.t 58) 1)⟩,
    ⟨(some 11), none, (.alloc [(.v (.int .i64 0)), (.v (.int .i64 0)), (.v (.int .i64 0)), (.v (.int .i64 0)), (.v (.int .i64 0)), (.v (.int .i64 0)), (.v (.slice none 0 0)), (.v (.slice none 0 0))])⟩,
    ⟨none, none, (.store 8 (.t 11) (.t 61))⟩,
    ⟨(some 12), none, (.mv (.t 62))⟩] false) (.seq [70] (.region [⟨(some 63), none, (.mv (.t 12))⟩,
    ⟨(some 64), none, (.bin .neq .none (.t 63) (.c (.v (.int .i64 0))))⟩,
    ⟨(some 65), none, (.mv (.t 64))⟩,
    ⟨(some 66), (some (65, false)), (.load (some 8) (.t 3))⟩,
    ⟨(some 67), (some (65, false)), (.load (some 8) (.t 11))⟩,
    ⟨(some 68), (some (65, false)), (.call (.c (.fn 27 [])) [(.t 66), (.t 67)])⟩,
    ⟨(some 69), (some (65, false)), (.un .not (.t 68))⟩,
    ⟨(some 70), none, (.pick (.t 65) (.c (.v (.bool true))) (.t 69))⟩] false) (.cond (.t 70) (.seq [4] (.region [⟨(some 4), none, (.mv (.c (.v (.bool false))))⟩] false) .ret) .skip))) (.seq [73] (.region [⟨(some 71), none, (.mv (.t 9))⟩,
    ⟨(some 72), none, (.len (.t 71))⟩,
    ⟨(some 73), none, (.bin .gtr .none (.t 72) (.c (.v (.int .i64 0))))⟩] false) (.cond (.t 73) (.seq [4] (.region [⟨(some 4), none, (.mv (.c (.v (.bool false))))⟩] false) .ret) .skip))))) (.seq [4] (.region [⟨(some 74), none, (.call (.c (.fn 12 [])) [])⟩,
    ⟨(some 4), none, (.mv (.t 74))⟩] false) .ret)))))⟩
/- standby/standbylaw25.PacketOnce -/
def s8b0 : SCode := 
  (.seq [20, 21, 22, 23] (.region [⟨(some 23), none, (.bin .lss .none (.t 22) (.t 21))⟩] false) (.seq [20, 21, 22] (.cond (.t 23) .skip (.exit 0)) (.seq [20, 21, 22] (.block 1 (.seq [4, 20, 21, 22] (.region [⟨(some 24), none, (.iaddr 1 none (.t 20) (.t 22))⟩,
    ⟨(some 25), none, (.load none (.t 24))⟩,
    ⟨(some 4), none, (.mv (.t 25))⟩] false) (.seq [4, 20, 21, 22] (.seq [4, 5, 6, 20, 21, 22] (.region [⟨(some 27), none, (.mv (.t 4))⟩,
    ⟨(some 28), none, (.call (.c (.fn 22 [])) [(.t 27)])⟩,
    ⟨(some 26), none, (.mv (.t 28))⟩,
    ⟨(some 29), none, (.extract (.t 26) 0)⟩,
    ⟨(some 30), none, (.extract (.t 26) 1)⟩,
    ⟨(some 5), none, (.alloc [(.v (.int .i64 0)), (.v (.int .i64 0)), (.v (.int .i64 0)), (.v (.int .i64 0)), (.v (.int .i64 0)), (.v (.slice none 0 0)), (.v (.slice none 0 0))])⟩,
    ⟨none, none, (.store 7 (.t 5) (.t 29))⟩,
    ⟨(some 6), none, (.mv (.t 30))⟩] false) (.seq [4, 5, 20, 21, 22, 32] (.region [⟨(some 31), none, (.mv (.t 6))⟩,
    ⟨(some 32), none, (.bin .eql .none (.t 31) (.c (.v (.int .i64 0))))⟩] false) (.cond (.t 32) (.seq [4, 7, 8, 20, 21, 22] (.region [⟨(some 34), none, (.load (some 7) (.t 5))⟩,
    ⟨(some 35), none, (.call (.c (.fn 18 [])) [(.t 34)])⟩,
    ⟨(some 33), none, (.mv (.t 35))⟩,
    ⟨(some 36), none, (.extract (.t 33) 0)⟩,
    ⟨(some 37), none, (.extract (.t 33) 1)⟩,
    ⟨(some 7), none, (.mv (.t 36))⟩,
    ⟨(some 8), none, (.mv (.t 37))⟩] false) (.seq [4, 20, 21, 22, 45] (.region [⟨(some 38), none, (.mv (.t 8))⟩,
    ⟨(some 39), none, (.bin .neq .none (.t 38) (.c (.v (.int .i64 0))))⟩,
    ⟨(some 40), none, (.mv (.t 39))⟩,
    ⟨(some 41), (some (40, false)), (.mv (.t 4))⟩,
    ⟨(some 42), (some (40, false)), (.mv (.t 7))⟩,
    ⟨(some 43), (some (40, false)), (.call (.c (.fn 20 [])) [(.t 41), (.t 42)])⟩,
    ⟨(some 44), (some (40, false)), (.un .not (.t 43))⟩,
    ⟨(some 45), none, (.pick (.t 40) (.c (.v (.bool true))) (.t 44))⟩] false) (.cond (.t 45) (.seq [2] (.region [⟨(some 2), none, (.mv (.c (.v (.bool false))))⟩] false) .ret) .skip))) .skip))) (.seq [4, 9, 10, 20, 21, 22] (.region [⟨(some 47), none, (.mv (.t 4))⟩,
    ⟨(some 48), none, (.call (.c (.fn 24 [])) [(.t 47)])⟩,
    ⟨(some 46), none, (.mv (.t 48))⟩,
    ⟨(some 49), none, (.extract (.t 46) 0)⟩,
    ⟨(some 50), none, (.extract (.t 46) 1)⟩,
    ⟨(some 9), none, (.alloc [(.v (.int .i64 0)), (.v (.int .i64 0)), (.v (.int .i64 0)), (.v (.int .i64 0)), (.v (.int .i64 0)), (.v (.int .i64 0)), (.v (.slice none 0 0)), (.v (.slice none 0 0))])⟩,
    ⟨none, none, (.store 8 (.t 9) (.t 49))⟩,
    ⟨(some 10), none, (.mv (.t 50))⟩] false) (.seq [4, 9, 20, 21, 22, 52] (.region [⟨(some 51), none, (.mv (.t 10))⟩,
    ⟨(some 52), none, (.bin .eql .none (.t 51) (.c (.v (.int .i64 0))))⟩] false) (.cond (.t 52) (.seq [4, 11, 12, 20, 21, 22] (.region [⟨(some 54), none, (.load (some 8) (.t 9))⟩,
    ⟨(some 55), none, (.call (.c (.fn 29 [])) [(.t 54)])⟩,
    ⟨(some 53), none, (.mv (.t 55))⟩,
    ⟨(some 56), none, (.extract (.t 53) 0)⟩,
    ⟨(some 57), none, (.extract (.t 53) 1)⟩,
    ⟨(some 11), none, (.mv (.t 56))⟩,
    ⟨(some 12), none, (.mv (.t 57))⟩] false) (.seq [20, 21, 22, 65] (.region [⟨(some 58), none, (.mv (.t 12))⟩,
    ⟨(some 59), none, (.bin .neq .none (.t 58) (.c (.v (.int .i64 0))))⟩,
    ⟨(some 60), none, (.mv (.t 59))⟩,
    ⟨(some 61), (some (60, false)), (.mv (.t 4))⟩,
    ⟨(some 62), (some (60, false)), (.mv (.t 11))⟩,
    ⟨(some 63), (some (60, false)), (.call (.c (.fn 20 [])) [(.t 61), (.t 62)])⟩,
    ⟨(some 64), (some (60, false)), (.un .not (.t 63))⟩,
    ⟨(some 65), none, (.pick (.t 60) (.c (.v (.bool true))) (.t 64))⟩] false) (.cond (.t 65) (.seq [2] (.region [⟨(some 2), none, (.mv (.c (.v (.bool false))))⟩] false) .ret) .skip))) .skip)))))) (.region [⟨(some 66), none, (.bin .add .none (.t 22) (.c (.v (.int .i64 1))))⟩,
    ⟨(some 22), none, (.mv (.t 66))⟩] false))))
def s8 : SFn := 
  ⟨.plain, 1, [(.tmp 2)], (.seq [0] (.region [⟨(some 2), none, (.mv (.c (.v (.bool false))))⟩] false) (.seq [0] (.seq [0, 15] (.region [⟨(some 13), none, (.mv (.t 0))⟩,
    ⟨(some 14), none, (.len (.t 13))⟩,
    ⟨(some 15), none, (.bin .gtr .none (.t 14) (.c (.v (.int .i64 1000))))⟩] false) (.cond (.t 15) (.seq [2] (.region [⟨(some 16), none, (.call (.c (.fn 12 [])) [])⟩,
    ⟨(some 2), none, (.mv (.t 16))⟩] false) .ret) .skip)) (.seq [] (.seq [20, 21, 22] (.region [⟨(some 17), none, (.mv (.t 0))⟩,
    ⟨(some 18), none, (.mv (.t 0))⟩,
    ⟨(some 19), none, (.call (.c (.fn 21 [])) [(.t 18)])⟩,
    ⟨(some 20), none, (.bslice [(.v (.slice none 0 0))] 2 [(0, (1, (.t 17))), (1, (1, (.t 19)))])⟩,
    ⟨(some 21), none, (.len (.t 20))⟩,
    ⟨(some 22), none, (.mv (.c (.v (.int .i64 0))))⟩] false) (.block 0 (.loop [20, 21, 22] s8b0))) (.seq [2] (.region [⟨(some 67), none, (.call (.c (.fn 12 [])) [])⟩,
    ⟨(some 2), none, (.mv (.t 67))⟩] false) .ret))))⟩
/- standby/standbylaw25.PacketDetects -/
def s9 : SFn := 
  ⟨.plain, 3, [(.tmp 6)], (.seq [3, 4, 5] (.region [⟨(some 3), none, (.box (.t 0))⟩,
    ⟨(some 4), none, (.box (.t 1))⟩,
    ⟨(some 5), none, (.box (.t 2))⟩,
    ⟨(some 6), none, (.mv (.c (.v (.bool false))))⟩] false) (.seq [3, 4, 5] (.seq [3, 4, 5, 41] (.region [⟨(some 20), none, (.faddr 6 (.t 3))⟩,
    ⟨(some 21), none, (.load none (.t 20))⟩,
    ⟨(some 22), none, (.len (.t 21))⟩,
    ⟨(some 23), none, (.bin .gtr .none (.t 22) (.c (.v (.int .i64 300))))⟩,
    ⟨(some 24), none, (.mv (.t 23))⟩,
    ⟨(some 25), (some (24, false)), (.faddr 5 (.t 3))⟩,
    ⟨(some 26), (some (24, false)), (.load none (.t 25))⟩,
    ⟨(some 27), (some (24, false)), (.len (.t 26))⟩,
    ⟨(some 28), (some (24, false)), (.bin .gtr .none (.t 27) (.c (.v (.int .i64 40))))⟩,
    ⟨(some 29), none, (.pick (.t 24) (.c (.v (.bool true))) (.t 28))⟩,
    ⟨(some 30), none, (.mv (.t 29))⟩,
    ⟨(some 31), (some (30, false)), (.faddr 6 (.t 4))⟩,
    ⟨(some 32), (some (30, false)), (.load none (.t 31))⟩,
    ⟨(some 33), (some (30, false)), (.len (.t 32))⟩,
    ⟨(some 34), (some (30, false)), (.bin .gtr .none (.t 33) (.c (.v (.int .i64 40))))⟩,
    ⟨(some 35), none, (.pick (.t 30) (.c (.v (.bool true))) (.t 34))⟩,
    ⟨(some 36), none, (.mv (.t 35))⟩,
    ⟨(some 37), (some (36, false)), (.faddr 7 (.t 4))⟩,
    ⟨(some 38), (some (36, false)), (.load none (.t 37))⟩,
    ⟨(some 39), (some (36, false)), (.len (.t 38))⟩,
    ⟨(some 40), (some (36, false)), (.bin .gtr .none (.t 39) (.c (.v (.int .i64 300))))⟩,
    ⟨(some 41), none, (.pick (.t 36) (.c (.v (.bool true))) (.t 40))⟩] false) (.cond (.t 41) (.seq [6] (.region [⟨(some 42), none, (.call (.c (.fn 12 [])) [])⟩,
    ⟨(some 6), none, (.mv (.t 42))⟩] false) .ret) .skip)) (.seq [3, 4, 5, 7] (.region [⟨(some 43), none, (.iaddr 1 (some 2) (.t 5) (.c (.v (.int .i64 1))))⟩,
    ⟨(some 44), none, (.load none (.t 43))⟩,
    ⟨(some 45), none, (.minmax true (.t 44) (.c (.v (.int .u8 1))))⟩,
    ⟨(some 7), none, (.mv (.t 45))⟩] false) (.seq [4, 5, 7] (.seq [4, 5, 7, 8, 9] (.region [⟨(some 47), none, (.load (some 7) (.t 3))⟩,
    ⟨(some 48), none, (.call (.c (.fn 18 [])) [(.t 47)])⟩,
    ⟨(some 46), none, (.mv (.t 48))⟩,
    ⟨(some 49), none, (.extract (.t 46) 0)⟩,
    ⟨(some 50), none, (.extract (.t 46) 1)⟩,
    ⟨(some 8), none, (.mv (.t 49))⟩,
    ⟨(some 9), none, (.mv (.t 50))⟩] false) (.seq [4, 5, 7, 8, 52] (.region [⟨(some 51), none, (.mv (.t 9))⟩,
    ⟨(some 52), none, (.bin .eql .none (.t 51) (.c (.v (.int .i64 0))))⟩] false) (.cond (.t 52) (.seq [4, 5, 7, 8] (.seq [4, 5, 7, 8, 55] (.region [⟨(some 53), none, (.mv (.t 8))⟩,
    ⟨(some 54), none, (.len (.t 53))⟩,
    ⟨(some 55), none, (.bin .lss .none (.t 54) (.c (.v (.int .i64 4))))⟩] false) (.cond (.t 55) (.seq [6] (.region [⟨(some 6), none, (.mv (.c (.v (.bool false))))⟩] false) .ret) .skip)) (.seq [4, 5, 7, 8, 10] (.region [⟨(some 56), none, (.mv (.t 8))⟩,
    ⟨(some 57), none, (.callF (.c (.fn 31 [])) [(.t 56)])⟩,
    ⟨(some 10), none, (.mv (.t 57))⟩] false) (.seq [4, 5, 7, 8, 10] (.region [⟨(some 58), none, (.mv (.t 10))⟩,
    ⟨(some 59), none, (.iaddr 1 (some 2) (.t 5) (.c (.v (.int .i64 0))))⟩,
    ⟨(some 60), none, (.load none (.t 59))⟩,
    ⟨(some 61), none, (.conv .i64 (.t 60))⟩,
    ⟨(some 62), none, (.mv (.t 10))⟩,
    ⟨(some 63), none, (.len (.t 62))⟩,
    ⟨(some 64), none, (.bin .rem .none (.t 61) (.t 63))⟩,
    ⟨(some 65), none, (.iaddr 1 none (.t 58) (.t 64))⟩,
    ⟨(some 66), none, (.load none (.t 65))⟩,
    ⟨(some 67), none, (.mv (.t 7))⟩,
    ⟨(some 68), none, (.bin .xor .none (.t 66) (.t 67))⟩,
    ⟨(some 69), none, (.iaddr 1 none (.t 58) (.t 64))⟩,
    ⟨none, none, (.store 1 (.t 69) (.t 68))⟩] false) (.seq [4, 5, 7, 8, 12] (.region [⟨(some 71), none, (.mv (.t 10))⟩,
    ⟨(some 72), none, (.call (.c (.fn 22 [])) [(.t 71)])⟩,
    ⟨(some 70), none, (.mv (.t 72))⟩,
    ⟨(some 73), none, (.extract (.t 70) 0)⟩,
    ⟨(some 74), none, (.extract (.t 70) 1)⟩,
    ⟨(some 11), none, (.alloc [(.v (.int .i64 0)), (.v (.int .i64 0)), (.v (.int .i64 0)), (.v (.int .i64 0)), (.v (.int .i64 0)), (.v (.slice none 0 0)), (.v (.slice none 0 0))])⟩,
    ⟨none, none, (.store 7 (.t 11) (.t 73))⟩,
    ⟨(some 12), none, (.mv (.t 74))⟩] false) (.seq [4, 5, 7, 12, 14] (.region [⟨(some 76), none, (.mv (.t 8))⟩,
    ⟨(some 77), none, (.mv (.t 8))⟩,
    ⟨(some 78), none, (.len (.t 77))⟩,
    ⟨(some 79), none, (.bin .sub .none (.t 78) (.c (.v (.int .i64 1))))⟩,
    ⟨(some 80), none, (.slice 1 (.t 76) none (some (.t 79)))⟩,
    ⟨(some 81), none, (.call (.c (.fn 22 [])) [(.t 80)])⟩,
    ⟨(some 75), none, (.mv (.t 81))⟩,
    ⟨(some 82), none, (.extract (.t 75) 0)⟩,
    ⟨(some 83), none, (.extract (.t 75) 1)⟩,
    ⟨(some 13), none, (.alloc [(.v (.int .i64 0)), (.v (.int .i64 0)), (.v (.int .i64 0)), (.v (.int .i64 0)), (.v (.int .i64 0)), (.v (.slice none 0 0)), (.v (.slice none 0 0))])⟩,
    ⟨none, none, (.store 7 (.t 13) (.t 82))⟩,
    ⟨(some 14), none, (.mv (.t 83))⟩] false) (.seq [4, 5, 7, 89] (.region [⟨(some 84), none, (.mv (.t 12))⟩,
    ⟨(some 85), none, (.bin .neq .none (.t 84) (.c (.v (.int .i64 9))))⟩,
    ⟨(some 86), none, (.mv (.t 85))⟩,
    ⟨(some 87), (some (86, false)), (.mv (.t 14))⟩,
    ⟨(some 88), (some (86, false)), (.bin .eql .none (.t 87) (.c (.v (.int .i64 0))))⟩,
    ⟨(some 89), none, (.pick (.t 86) (.c (.v (.bool true))) (.t 88))⟩] false) (.cond (.t 89) (.seq [6] (.region [⟨(some 6), none, (.mv (.c (.v (.bool false))))⟩] false) .ret) .skip))))))) .skip))) (.seq [] (.seq [5, 7, 15, 16] (.region [⟨(some 91), none, (.load (some 8) (.t 4))⟩,
    ⟨(some 92), none, (.call (.c (.fn 29 [])) [(.t 91)])⟩,
    ⟨(some 90), none, (.mv (.t 92))⟩,
    ⟨(some 93), none, (.extract (.t 90) 0)⟩,
    ⟨(some 94), none, (.extract (.t 90) 1)⟩,
    ⟨(some 15), none, (.mv (.t 93))⟩,
    ⟨(some 16), none, (.mv (.t 94))⟩] false) (.seq [5, 7, 15, 96] (.region [⟨(some 95), none, (.mv (.t 16))⟩,
    ⟨(some 96), none, (.bin .eql .none (.t 95) (.c (.v (.int .i64 0))))⟩] false) (.cond (.t 96) (.seq [5, 7, 15] (.seq [5, 7, 15, 99] (.region [⟨(some 97), none, (.mv (.t 15))⟩,
    ⟨(some 98), none, (.len (.t 97))⟩,
    ⟨(some 99), none, (.bin .lss .none (.t 98) (.c (.v (.int .i64 4))))⟩] false) (.cond (.t 99) (.seq [6] (.region [⟨(some 6), none, (.mv (.c (.v (.bool false))))⟩] false) .ret) .skip)) (.seq [5, 7, 17] (.region [⟨(some 100), none, (.mv (.t 15))⟩,
    ⟨(some 101), none, (.callF (.c (.fn 31 [])) [(.t 100)])⟩,
    ⟨(some 17), none, (.mv (.t 101))⟩] false) (.seq [17] (.region [⟨(some 102), none, (.mv (.t 17))⟩,
    ⟨(some 103), none, (.iaddr 1 (some 2) (.t 5) (.c (.v (.int .i64 0))))⟩,
    ⟨(some 104), none, (.load none (.t 103))⟩,
    ⟨(some 105), none, (.conv .i64 (.t 104))⟩,
    ⟨(some 106), none, (.mv (.t 17))⟩,
    ⟨(some 107), none, (.len (.t 106))⟩,
    ⟨(some 108), none, (.bin .rem .none (.t 105) (.t 107))⟩,
    ⟨(some 109), none, (.iaddr 1 none (.t 102) (.t 108))⟩,
    ⟨(some 110), none, (.load none (.t 109))⟩,
    ⟨(some 111), none, (.mv (.t 7))⟩,
    ⟨(some 112), none, (.bin .xor .none (.t 110) (.t 111))⟩,
    ⟨(some 113), none, (.iaddr 1 none (.t 102) (.t 108))⟩,
    ⟨none, none, (.store 1 (.t 113) (.t 112))⟩] false) (.seq [19] (.region [⟨(some 115), none, (.mv (.t 17))⟩,
    ⟨(some 116), none, (.call (.c (.fn 24 [])) [(.t 115)])⟩,
    ⟨(some 114), none, (.mv (.t 116))⟩,
    ⟨(some 117), none, (.extract (.t 114) 0)⟩,
    ⟨(some 118), none, (.extract (.t 114) 1)⟩,
    ⟨(some 18), none, (.alloc [(.v (.int .i64 0)), (.v (.int .i64 0)), (.v (.int .i64 0)), (.v (.int .i64 0)), (.v (.int .i64 0)), (.v (.int .i64 0)), (.v (.slice none 0 0)), (.v (.slice none 0 0))])⟩,
    ⟨none, none, (.store 8 (.t 18) (.t 117))⟩,
    ⟨(some 19), none, (.mv (.t 118))⟩] false) (.seq [120] (.region [⟨(some 119), none, (.mv (.t 19))⟩,
    ⟨(some 120), none, (.bin .neq .none (.t 119) (.c (.v (.int .i64 9))))⟩] false) (.cond (.t 120) (.seq [6] (.region [⟨(some 6), none, (.mv (.c (.v (.bool false))))⟩] false) .ret) .skip)))))) .skip))) (.seq [6] (.region [⟨(some 121), none, (.call (.c (.fn 12 [])) [])⟩,
    ⟨(some 6), none, (.mv (.t 121))⟩] false) .ret))))))⟩
/- standby/standbylaw25.PacketGaps -/
def s10b0 : SCode := 
  (.seq [1, 3, 4, 5, 6] (.seq [1, 3, 4, 5, 6, 46] (.region [⟨(some 40), none, (.mv (.t 6))⟩,
    ⟨(some 41), none, (.faddr 0 (.t 5))⟩,
    ⟨(some 42), none, (.load none (.t 41))⟩,
    ⟨(some 43), none, (.faddr 1 (.t 5))⟩,
    ⟨(some 44), none, (.load none (.t 43))⟩,
    ⟨(some 45), none, (.bin .add .none (.t 42) (.t 44))⟩,
    ⟨(some 46), none, (.bin .leq .none (.t 40) (.t 45))⟩] false) (.cond (.t 46) .skip (.exit 0))) (.seq [1, 3, 4, 5, 6] (.block 1 (.seq [1, 3, 4, 5, 6, 7] (.region [⟨(some 7), none, (.mv (.c (.v (.int .i64 1))))⟩] false) (.seq [1, 3, 4, 5, 6, 7] (.seq [1, 3, 4, 5, 6, 7, 61] (.region [⟨(some 49), none, (.mv (.t 6))⟩,
    ⟨(some 50), none, (.faddr 3 (.t 1))⟩,
    ⟨(some 51), none, (.load none (.t 50))⟩,
    ⟨(some 52), none, (.bin .lss .none (.t 49) (.t 51))⟩,
    ⟨(some 53), none, (.mv (.t 52))⟩,
    ⟨(some 54), (some (53, false)), (.mv (.t 6))⟩,
    ⟨(some 55), (some (53, false)), (.faddr 0 (.t 5))⟩,
    ⟨(some 56), (some (53, false)), (.load none (.t 55))⟩,
    ⟨(some 57), (some (53, false)), (.faddr 1 (.t 5))⟩,
    ⟨(some 58), (some (53, false)), (.load none (.t 57))⟩,
    ⟨(some 59), (some (53, false)), (.bin .add .none (.t 56) (.t 58))⟩,
    ⟨(some 60), (some (53, false)), (.bin .eql .none (.t 54) (.t 59))⟩,
    ⟨(some 61), none, (.pick (.t 53) (.c (.v (.bool true))) (.t 60))⟩] false) (.cond (.t 61) (.region [⟨(some 7), none, (.mv (.c (.v (.int .i64 0))))⟩] false) .skip)) (.seq [1, 3, 4, 5, 6, 73] (.region [⟨(some 62), none, (.mv (.t 4))⟩,
    ⟨(some 63), none, (.faddr 5 (.t 1))⟩,
    ⟨(some 64), none, (.load none (.t 63))⟩,
    ⟨(some 65), none, (.mv (.t 6))⟩,
    ⟨(some 66), none, (.call (.t 62) [(.t 64), (.t 65)])⟩,
    ⟨(some 67), none, (.mv (.t 4))⟩,
    ⟨(some 68), none, (.mv (.t 3))⟩,
    ⟨(some 69), none, (.mv (.t 6))⟩,
    ⟨(some 70), none, (.call (.t 67) [(.t 68), (.t 69)])⟩,
    ⟨(some 71), none, (.bin .add .none (.t 66) (.t 70))⟩,
    ⟨(some 72), none, (.mv (.t 7))⟩,
    ⟨(some 73), none, (.bin .neq .none (.t 71) (.t 72))⟩] false) (.cond (.t 73) (.seq [2] (.region [⟨(some 2), none, (.mv (.c (.v (.bool false))))⟩] false) .ret) .skip))))) (.region [⟨(some 47), none, (.mv (.t 6))⟩,
    ⟨(some 48), none, (.bin .add .none (.t 47) (.c (.v (.int .i64 1))))⟩,
    ⟨(some 6), none, (.mv (.t 48))⟩] false)))
def s10 : SFn := 
  ⟨.plain, 1, [(.tmp 2)], (.seq [1] (.region [⟨(some 1), none, (.box (.t 0))⟩,
    ⟨(some 2), none, (.mv (.c (.v (.bool false))))⟩] false) (.seq [1] (.seq [1, 10] (.region [⟨(some 8), none, (.load (some 7) (.t 1))⟩,
    ⟨(some 9), none, (.call (.c (.fn 11 [])) [(.t 8)])⟩,
    ⟨(some 10), none, (.un .not (.t 9))⟩] false) (.cond (.t 10) (.seq [2] (.region [⟨(some 11), none, (.call (.c (.fn 12 [])) [])⟩,
    ⟨(some 2), none, (.mv (.t 11))⟩] false) .ret) .skip)) (.seq [1, 3] (.region [⟨(some 12), none, (.load (some 7) (.t 1))⟩,
    ⟨(some 13), none, (.call (.c (.fn 16 [])) [(.t 12)])⟩,
    ⟨(some 3), none, (.mv (.t 13))⟩] false) (.seq [1, 3] (.seq [1, 3, 22] (.region [⟨(some 14), none, (.load (some 7) (.t 1))⟩,
    ⟨(some 15), none, (.call (.c (.fn 13 [])) [(.t 14)])⟩,
    ⟨(some 16), none, (.bin .neq .none (.t 15) (.c (.v (.int .i64 0))))⟩,
    ⟨(some 17), none, (.mv (.t 16))⟩,
    ⟨(some 18), (some (17, false)), (.faddr 5 (.t 1))⟩,
    ⟨(some 19), (some (17, false)), (.load none (.t 18))⟩,
    ⟨(some 20), (some (17, false)), (.len (.t 19))⟩,
    ⟨(some 21), (some (17, false)), (.bin .eql .none (.t 20) (.c (.v (.int .i64 0))))⟩,
    ⟨(some 22), none, (.pick (.t 17) (.c (.v (.bool true))) (.t 21))⟩] false) (.cond (.t 22) (.seq [2] (.region [⟨(some 23), none, (.mv (.t 3))⟩,
    ⟨(some 24), none, (.len (.t 23))⟩,
    ⟨(some 25), none, (.bin .eql .none (.t 24) (.c (.v (.int .i64 0))))⟩,
    ⟨(some 26), none, (.mv (.t 25))⟩,
    ⟨(some 27), (some (26, true)), (.call (.c (.fn 12 [])) [])⟩,
    ⟨(some 28), none, (.pick (.t 26) (.t 27) (.c (.v (.bool false))))⟩,
    ⟨(some 2), none, (.mv (.t 28))⟩] false) .ret) .skip)) (.seq [1, 3, 4] (.region [⟨(some 4), none, (.mv (.c (.fn 32 [])))⟩] false) (.seq [1, 3, 4, 5] (.region [⟨(some 29), none, (.faddr 5 (.t 1))⟩,
    ⟨(some 30), none, (.load none (.t 29))⟩,
    ⟨(some 31), none, (.faddr 5 (.t 1))⟩,
    ⟨(some 32), none, (.load none (.t 31))⟩,
    ⟨(some 33), none, (.len (.t 32))⟩,
    ⟨(some 34), none, (.bin .sub .none (.t 33) (.c (.v (.int .i64 1))))⟩,
    ⟨(some 35), none, (.iaddr 2 none (.t 30) (.t 34))⟩,
    ⟨(some 36), none, (.load (some 2) (.t 35))⟩,
    ⟨(some 5), none, (.alloc [(.v (.int .i64 0)), (.v (.int .i64 0))])⟩,
    ⟨none, none, (.store 2 (.t 5) (.t 36))⟩] false) (.seq [1, 3, 4] (.seq [1, 3, 4, 5, 6] (.region [⟨(some 37), none, (.faddr 3 (.t 1))⟩,
    ⟨(some 38), none, (.load none (.t 37))⟩,
    ⟨(some 39), none, (.bin .sub .none (.t 38) (.c (.v (.int .i64 1))))⟩,
    ⟨(some 6), none, (.mv (.t 39))⟩] false) (.block 0 (.loop [1, 3, 4, 5, 6] s10b0))) (.seq [2] (.region [⟨(some 74), none, (.mv (.t 4))⟩,
    ⟨(some 75), none, (.mv (.t 3))⟩,
    ⟨(some 76), none, (.faddr 3 (.t 1))⟩,
    ⟨(some 77), none, (.load none (.t 76))⟩,
    ⟨(some 78), none, (.call (.t 74) [(.t 75), (.t 77)])⟩,
    ⟨(some 79), none, (.bin .eql .none (.t 78) (.c (.v (.int .i64 1))))⟩,
    ⟨(some 80), none, (.mv (.t 79))⟩,
    ⟨(some 81), (some (80, true)), (.call (.c (.fn 12 [])) [])⟩,
    ⟨(some 82), none, (.pick (.t 80) (.t 81) (.c (.v (.bool false))))⟩,
    ⟨(some 2), none, (.mv (.t 82))⟩] false) .ret))))))))⟩
/- standby/standbylaw25.few -/
def s11 : SFn := 
  ⟨.plain, 1, [(.tmp 2)], (.seq [1] (.region [⟨(some 1), none, (.box (.t 0))⟩,
    ⟨(some 2), none, (.mv (.c (.v (.bool false))))⟩] false) (.seq [2] (.region [⟨(some 3), none, (.faddr 5 (.t 1))⟩,
    ⟨(some 4), none, (.load none (.t 3))⟩,
    ⟨(some 5), none, (.len (.t 4))⟩,
    ⟨(some 6), none, (.bin .leq .none (.t 5) (.c (.v (.int .i64 40))))⟩,
    ⟨(some 7), none, (.mv (.t 6))⟩,
    ⟨(some 8), (some (7, true)), (.faddr 6 (.t 1))⟩,
    ⟨(some 9), (some (7, true)), (.load none (.t 8))⟩,
    ⟨(some 10), (some (7, true)), (.len (.t 9))⟩,
    ⟨(some 11), (some (7, true)), (.bin .leq .none (.t 10) (.c (.v (.int .i64 5000))))⟩,
    ⟨(some 12), none, (.pick (.t 7) (.t 11) (.c (.v (.bool false))))⟩,
    ⟨(some 2), none, (.mv (.t 12))⟩] false) .ret))⟩
/- standby/standbylaw25.awake -/
def s12 : SFn := 
  ⟨.plain, 0, [(.tmp 0)], (.seq [] (.region [⟨(some 0), none, (.mv (.c (.v (.bool false))))⟩] false) (.seq [1] (.region [⟨(some 16), none, (.build [(.v (.int .i64 0)), (.v (.int .i64 0))] [(0, (1, (.c (.v (.int .i64 7))))), (1, (1, (.c (.v (.int .i64 2)))))])⟩,
    ⟨(some 17), none, (.bslice [(.v (.int .i64 0)), (.v (.int .i64 0))] 1 [(0, (2, (.t 16)))])⟩,
    ⟨(some 18), none, (.build [(.v (.int .i64 0)), (.v (.int .i64 0)), (.v (.int .i64 0)), (.v (.int .i64 0)), (.v (.int .i64 0)), (.v (.slice none 0 0)), (.v (.slice none 0 0))] [(0, (1, (.c (.v (.int .i64 1))))), (1, (1, (.c (.v (.int .i64 1))))), (3, (1, (.c (.v (.int .i64 5))))), (4, (1, (.c (.v (.int .i64 8))))), (5, (1, (.t 17)))])⟩,
    ⟨(some 1), none, (.alloc [(.v (.int .i64 0)), (.v (.int .i64 0)), (.v (.int .i64 0)), (.v (.int .i64 0)), (.v (.int .i64 0)), (.v (.slice none 0 0)), (.v (.slice none 0 0))])⟩,
    ⟨none, none, (.store 7 (.t 1) (.t 18))⟩] false) (.seq [1, 2, 3] (.region [⟨(some 20), none, (.load (some 7) (.t 1))⟩,
    ⟨(some 21), none, (.call (.c (.fn 18 [])) [(.t 20)])⟩,
    ⟨(some 19), none, (.mv (.t 21))⟩,
    ⟨(some 22), none, (.extract (.t 19) 0)⟩,
    ⟨(some 23), none, (.extract (.t 19) 1)⟩,
    ⟨(some 2), none, (.mv (.t 22))⟩,
    ⟨(some 3), none, (.mv (.t 23))⟩] false) (.seq [1, 2, 3, 4] (.region [⟨(some 24), none, (.bslice [(.v (.int .u8 0))] 9 [(0, (1, (.c (.v (.int .u8 1))))), (1, (1, (.c (.v (.int .u8 1))))), (2, (1, (.c (.v (.int .u8 0))))), (3, (1, (.c (.v (.int .u8 5))))), (4, (1, (.c (.v (.int .u8 8))))), (5, (1, (.c (.v (.int .u8 1))))), (6, (1, (.c (.v (.int .u8 7))))), (7, (1, (.c (.v (.int .u8 2))))), (8, (1, (.c (.v (.int .u8 0)))))])⟩,
    ⟨(some 4), none, (.mv (.t 24))⟩] false) (.seq [1, 2, 3, 4, 5] (.region [⟨(some 25), none, (.mv (.t 4))⟩,
    ⟨(some 26), none, (.call (.c (.fn 33 [])) [(.t 25)])⟩,
    ⟨(some 5), none, (.mv (.t 26))⟩] false) (.seq [1, 2, 3, 4, 5, 6, 7] (.region [⟨(some 28), none, (.mv (.t 2))⟩,
    ⟨(some 29), none, (.call (.c (.fn 22 [])) [(.t 28)])⟩,
    ⟨(some 27), none, (.mv (.t 29))⟩,
    ⟨(some 30), none, (.extract (.t 27) 0)⟩,
    ⟨(some 31), none, (.extract (.t 27) 1)⟩,
    ⟨(some 6), none, (.alloc [(.v (.int .i64 0)), (.v (.int .i64 0)), (.v (.int .i64 0)), (.v (.int .i64 0)), (.v (.int .i64 0)), (.v (.slice none 0 0)), (.v (.slice none 0 0))])⟩,
    ⟨none, none, (.store 7 (.t 6) (.t 30))⟩,
    ⟨(some 7), none, (.mv (.t 31))⟩] false) (.seq [1, 2, 3, 4, 5, 6, 7, 9] (.region [⟨(some 33), none, (.build [(.v (.int .i64 0)), (.v (.int .i64 0)), (.v (.int .i64 0)), (.v (.int .i64 0)), (.v (.int .i64 0)), (.v (.int .i64 0)), (.v (.slice none 0 0)), (.v (.slice none 0 0))] [(0, (1, (.c (.v (.int .i64 27)))))])⟩,
    ⟨(some 34), none, (.call (.c (.fn 29 [])) [(.t 33)])⟩,
    ⟨(some 32), none, (.mv (.t 34))⟩,
    ⟨(some 35), none, (.extract (.t 32) 0)⟩,
    ⟨(some 36), none, (.extract (.t 32) 1)⟩,
    ⟨(some 8), none, (.mv (.t 35))⟩,
    ⟨(some 9), none, (.mv (.t 36))⟩] false) (.seq [1, 2, 3, 4, 5, 6, 7, 9, 11] (.region [⟨(some 38), none, (.build [(.v (.int .i64 0)), (.v (.int .i64 0)), (.v (.int .i64 0)), (.v (.int .i64 0)), (.v (.int .i64 0)), (.v (.int .i64 0)), (.v (.slice none 0 0)), (.v (.slice none 0 0))] [(0, (1, (.c (.v (.int .i64 1))))), (4, (1, (.c (.v (.int .i64 (-1))))))])⟩,
    ⟨(some 39), none, (.call (.c (.fn 29 [])) [(.t 38)])⟩,
    ⟨(some 37), none, (.mv (.t 39))⟩,
    ⟨(some 40), none, (.extract (.t 37) 0)⟩,
    ⟨(some 41), none, (.extract (.t 37) 1)⟩,
    ⟨(some 10), none, (.mv (.t 40))⟩,
    ⟨(some 11), none, (.mv (.t 41))⟩] false) (.seq [1, 2, 3, 4, 5, 6, 7, 9, 11, 12, 13] (.region [⟨(some 43), none, (.bslice [(.v (.int .u8 0))] 1 [(0, (1, (.c (.v (.int .u8 3)))))])⟩,
    ⟨(some 44), none, (.build [(.v (.int .i64 0)), (.v (.int .i64 0)), (.v (.int .i64 0)), (.v (.int .i64 0)), (.v (.int .i64 0)), (.v (.int .i64 0)), (.v (.slice none 0 0)), (.v (.slice none 0 0))] [(0, (1, (.c (.v (.int .i64 1))))), (7, (1, (.t 43)))])⟩,
    ⟨(some 45), none, (.call (.c (.fn 29 [])) [(.t 44)])⟩,
    ⟨(some 42), none, (.mv (.t 45))⟩,
    ⟨(some 46), none, (.extract (.t 42) 0)⟩,
    ⟨(some 47), none, (.extract (.t 42) 1)⟩,
    ⟨(some 12), none, (.mv (.t 46))⟩,
    ⟨(some 13), none, (.mv (.t 47))⟩] false) (.seq [1, 2, 3, 4, 5, 6, 7, 9, 11, 13, 14, 15] (.region [⟨(some 49), none, (.mv (.t 12))⟩,
    ⟨(some 50), none, (.call (.c (.fn 24 [])) [(.t 49)])⟩,
    ⟨(some 48), none, (.mv (.t 50))⟩,
    ⟨(some 51), none, (.extract (.t 48) 0)⟩,
    ⟨(some 52), none, (.extract (.t 48) 1)⟩,
    ⟨(some 14), none, (.alloc [(.v (.int .i64 0)), (.v (.int .i64 0)), (.v (.int .i64 0)), (.v (.int .i64 0)), (.v (.int .i64 0)), (.v (.int .i64 0)), (.v (.slice none 0 0)), (.v (.slice none 0 0))])⟩,
    ⟨none, none, (.store 8 (.t 14) (.t 51))⟩,
    ⟨(some 15), none, (.mv (.t 52))⟩] false) (.seq [1, 6, 9, 11] (.seq [1, 6, 9, 11, 102] (.region [⟨(some 53), none, (.mv (.t 3))⟩,
    ⟨(some 54), none, (.bin .neq .none (.t 53) (.c (.v (.int .i64 0))))⟩,
    ⟨(some 55), none, (.mv (.t 54))⟩,
    ⟨(some 56), (some (55, false)), (.mv (.t 2))⟩,
    ⟨(some 57), (some (55, false)), (.mv (.t 4))⟩,
    ⟨(some 58), (some (55, false)), (.mv (.t 5))⟩,
    ⟨(some 59), (some (55, false)), (.conv .u8 (.t 58))⟩,
    ⟨(some 60), (some (55, false)), (.mv (.t 5))⟩,
    ⟨(some 61), (some (55, false)), (.bin .shr .none (.t 60) (.c (.v (.int .u64 8))))⟩,
    ⟨(some 62), (some (55, false)), (.conv .u8 (.t 61))⟩,
    ⟨(some 63), (some (55, false)), (.mv (.t 5))⟩,
    ⟨(some 64), (some (55, false)), (.bin .shr .none (.t 63) (.c (.v (.int .u64 16))))⟩,
    ⟨(some 65), (some (55, false)), (.conv .u8 (.t 64))⟩,
    ⟨(some 66), (some (55, false)), (.mv (.t 5))⟩,
    ⟨(some 67), (some (55, false)), (.bin .shr .none (.t 66) (.c (.v (.int .u64 24))))⟩,
    ⟨(some 68), (some (55, false)), (.conv .u8 (.t 67))⟩,
    ⟨(some 69), (some (55, false)), (.bslice [(.v (.int .u8 0))] 4 [(0, (1, (.t 59))), (1, (1, (.t 62))), (2, (1, (.t 65))), (3, (1, (.t 68)))])⟩,
    ⟨(some 70), (some (55, false)), (.append 1 1 (.t 57) (.t 69))⟩,
    ⟨(some 71), (some (55, false)), (.call (.c (.fn 20 [])) [(.t 56), (.t 70)])⟩,
    ⟨(some 72), (some (55, false)), (.un .not (.t 71))⟩,
    ⟨(some 73), none, (.pick (.t 55) (.c (.v (.bool true))) (.t 72))⟩,
    ⟨(some 74), none, (.mv (.t 73))⟩,
    ⟨(some 75), (some (74, false)), (.mv (.t 7))⟩,
    ⟨(some 76), (some (74, false)), (.bin .neq .none (.t 75) (.c (.v (.int .i64 0))))⟩,
    ⟨(some 77), none, (.pick (.t 74) (.c (.v (.bool true))) (.t 76))⟩,
    ⟨(some 78), none, (.mv (.t 77))⟩,
    ⟨(some 79), (some (78, false)), (.load (some 7) (.t 1))⟩,
    ⟨(some 80), (some (78, false)), (.load (some 7) (.t 6))⟩,
    ⟨(some 81), (some (78, false)), (.call (.c (.fn 26 [])) [(.t 79), (.t 80)])⟩,
    ⟨(some 82), (some (78, false)), (.un .not (.t 81))⟩,
    ⟨(some 83), none, (.pick (.t 78) (.c (.v (.bool true))) (.t 82))⟩,
    ⟨(some 84), none, (.mv (.t 83))⟩,
    ⟨(some 85), (some (84, false)), (.mv (.t 13))⟩,
    ⟨(some 86), (some (84, false)), (.bin .neq .none (.t 85) (.c (.v (.int .i64 0))))⟩,
    ⟨(some 87), none, (.pick (.t 84) (.c (.v (.bool true))) (.t 86))⟩,
    ⟨(some 88), none, (.mv (.t 87))⟩,
    ⟨(some 89), (some (88, false)), (.mv (.t 15))⟩,
    ⟨(some 90), (some (88, false)), (.bin .neq .none (.t 89) (.c (.v (.int .i64 0))))⟩,
    ⟨(some 91), none, (.pick (.t 88) (.c (.v (.bool true))) (.t 90))⟩,
    ⟨(some 92), none, (.mv (.t 91))⟩,
    ⟨(some 93), (some (92, false)), (.faddr 0 (.t 14))⟩,
    ⟨(some 94), (some (92, false)), (.load none (.t 93))⟩,
    ⟨(some 95), (some (92, false)), (.bin .neq .none (.t 94) (.c (.v (.int .i64 1))))⟩,
    ⟨(some 96), none, (.pick (.t 92) (.c (.v (.bool true))) (.t 95))⟩,
    ⟨(some 97), none, (.mv (.t 96))⟩,
    ⟨(some 98), (some (97, false)), (.faddr 7 (.t 14))⟩,
    ⟨(some 99), (some (97, false)), (.load none (.t 98))⟩,
    ⟨(some 100), (some (97, false)), (.len (.t 99))⟩,
    ⟨(some 101), (some (97, false)), (.bin .neq .none (.t 100) (.c (.v (.int .i64 1))))⟩,
    ⟨(some 102), none, (.pick (.t 97) (.c (.v (.bool true))) (.t 101))⟩] false) (.cond (.t 102) (.seq [0] (.region [⟨(some 0), none, (.mv (.c (.v (.bool false))))⟩] false) .ret) .skip)) (.seq [1, 6, 9, 11] (.region [⟨(some 103), none, (.build [(.v (.int .i64 0)), (.v (.int .i64 0))] [(0, (1, (.c (.v (.int .i64 5))))), (1, (1, (.c (.v (.int .i64 2)))))])⟩,
    ⟨(some 104), none, (.bslice [(.v (.int .i64 0)), (.v (.int .i64 0))] 1 [(0, (2, (.t 103)))])⟩,
    ⟨(some 105), none, (.faddr 5 (.t 1))⟩,
    ⟨none, none, (.store 1 (.t 105) (.t 104))⟩] false) (.seq [0] (.region [⟨(some 106), none, (.load (some 7) (.t 6))⟩,
    ⟨(some 107), none, (.call (.c (.fn 16 [])) [(.t 106)])⟩,
    ⟨(some 108), none, (.build [(.v (.int .i64 0)), (.v (.int .i64 0))] [(0, (1, (.c (.v (.int .i64 5))))), (1, (1, (.c (.v (.int .i64 2)))))])⟩,
    ⟨(some 109), none, (.bslice [(.v (.int .i64 0)), (.v (.int .i64 0))] 1 [(0, (2, (.t 108)))])⟩,
    ⟨(some 110), none, (.call (.c (.fn 15 [])) [(.t 107), (.t 109)])⟩,
    ⟨(some 111), none, (.mv (.t 110))⟩,
    ⟨(some 112), (some (111, true)), (.load (some 7) (.t 1))⟩,
    ⟨(some 113), (some (111, true)), (.call (.c (.fn 13 [])) [(.t 112)])⟩,
    ⟨(some 114), (some (111, true)), (.bin .eql .none (.t 113) (.c (.v (.int .i64 3))))⟩,
    ⟨(some 115), none, (.pick (.t 111) (.t 114) (.c (.v (.bool false))))⟩,
    ⟨(some 116), none, (.mv (.t 115))⟩,
    ⟨(some 117), (some (116, true)), (.mv (.t 9))⟩,
    ⟨(some 118), (some (116, true)), (.bin .eql .none (.t 117) (.c (.v (.int .i64 1))))⟩,
    ⟨(some 119), none, (.pick (.t 116) (.t 118) (.c (.v (.bool false))))⟩,
    ⟨(some 120), none, (.mv (.t 119))⟩,
    ⟨(some 121), (some (120, true)), (.mv (.t 11))⟩,
    ⟨(some 122), (some (120, true)), (.bin .eql .none (.t 121) (.c (.v (.int .i64 2))))⟩,
    ⟨(some 123), none, (.pick (.t 120) (.t 122) (.c (.v (.bool false))))⟩,
    ⟨(some 0), none, (.mv (.t 123))⟩] false) .ret)))))))))))))⟩
/- standby/packet.Check -/
def s13 : SFn := 
  ⟨.plain, 1, [(.tmp 2)], (.seq [1] (.region [⟨(some 1), none, (.box (.t 0))⟩,
    ⟨(some 2), none, (.mv (.c (.v (.int .i64 0))))⟩] false) (.seq [] (.block 0 (.seq [1, 3] (.region [⟨(some 4), none, (.faddr 0 (.t 1))⟩,
    ⟨(some 5), none, (.load none (.t 4))⟩,
    ⟨(some 6), none, (.bin .lss .none (.t 5) (.c (.v (.int .i64 0))))⟩,
    ⟨(some 7), none, (.mv (.t 6))⟩,
    ⟨(some 8), (some (7, false)), (.faddr 0 (.t 1))⟩,
    ⟨(some 9), (some (7, false)), (.load none (.t 8))⟩,
    ⟨(some 10), (some (7, false)), (.bin .gtr .none (.t 9) (.c (.v (.int .i64 2))))⟩,
    ⟨(some 11), none, (.pick (.t 7) (.c (.v (.bool true))) (.t 10))⟩,
    ⟨(some 3), none, (.mv (.t 11))⟩] false) (.cond (.t 3) (.seq [2] (.region [⟨(some 2), none, (.mv (.c (.v (.int .i64 1))))⟩] false) .ret) (.seq [1, 12] (.region [⟨(some 13), none, (.faddr 1 (.t 1))⟩,
    ⟨(some 14), none, (.load none (.t 13))⟩,
    ⟨(some 15), none, (.call (.c (.fn 34 [])) [(.t 14)])⟩,
    ⟨(some 16), none, (.un .not (.t 15))⟩,
    ⟨(some 17), none, (.mv (.t 16))⟩,
    ⟨(some 18), (some (17, false)), (.faddr 2 (.t 1))⟩,
    ⟨(some 19), (some (17, false)), (.load none (.t 18))⟩,
    ⟨(some 20), (some (17, false)), (.call (.c (.fn 34 [])) [(.t 19)])⟩,
    ⟨(some 21), (some (17, false)), (.un .not (.t 20))⟩,
    ⟨(some 22), none, (.pick (.t 17) (.c (.v (.bool true))) (.t 21))⟩,
    ⟨(some 23), none, (.mv (.t 22))⟩,
    ⟨(some 24), (some (23, false)), (.faddr 3 (.t 1))⟩,
    ⟨(some 25), (some (23, false)), (.load none (.t 24))⟩,
    ⟨(some 26), (some (23, false)), (.call (.c (.fn 34 [])) [(.t 25)])⟩,
    ⟨(some 27), (some (23, false)), (.un .not (.t 26))⟩,
    ⟨(some 28), none, (.pick (.t 23) (.c (.v (.bool true))) (.t 27))⟩,
    ⟨(some 29), none, (.mv (.t 28))⟩,
    ⟨(some 30), (some (29, false)), (.faddr 4 (.t 1))⟩,
    ⟨(some 31), (some (29, false)), (.load none (.t 30))⟩,
    ⟨(some 32), (some (29, false)), (.bin .lss .none (.t 31) (.c (.v (.int .i64 0))))⟩,
    ⟨(some 33), none, (.pick (.t 29) (.c (.v (.bool true))) (.t 32))⟩,
    ⟨(some 34), none, (.mv (.t 33))⟩,
    ⟨(some 35), (some (34, false)), (.faddr 4 (.t 1))⟩,
    ⟨(some 36), (some (34, false)), (.load none (.t 35))⟩,
    ⟨(some 37), (some (34, false)), (.bin .gtr .none (.t 36) (.c (.v (.int .i64 64))))⟩,
    ⟨(some 38), none, (.pick (.t 34) (.c (.v (.bool true))) (.t 37))⟩,
    ⟨(some 12), none, (.mv (.t 38))⟩] false) (.cond (.t 12) (.seq [2] (.region [⟨(some 2), none, (.mv (.c (.v (.int .i64 2))))⟩] false) .ret) (.seq [1, 39] (.region [⟨(some 40), none, (.faddr 3 (.t 1))⟩,
    ⟨(some 41), none, (.load none (.t 40))⟩,
    ⟨(some 42), none, (.faddr 5 (.t 1))⟩,
    ⟨(some 43), none, (.load none (.t 42))⟩,
    ⟨(some 44), none, (.call (.c (.fn 35 [])) [(.t 41), (.t 43)])⟩,
    ⟨(some 45), none, (.un .not (.t 44))⟩,
    ⟨(some 39), none, (.mv (.t 45))⟩] false) (.cond (.t 39) (.seq [2] (.region [⟨(some 2), none, (.mv (.c (.v (.int .i64 3))))⟩] false) .ret) (.seq [1, 46] (.region [⟨(some 47), none, (.faddr 6 (.t 1))⟩,
    ⟨(some 48), none, (.load none (.t 47))⟩,
    ⟨(some 49), none, (.len (.t 48))⟩,
    ⟨(some 50), none, (.bin .gtr .none (.t 49) (.c (.v (.int .i64 4096))))⟩,
    ⟨(some 46), none, (.mv (.t 50))⟩] false) (.cond (.t 46) (.seq [2] (.region [⟨(some 2), none, (.mv (.c (.v (.int .i64 5))))⟩] false) .ret) (.seq [51] (.region [⟨(some 52), none, (.faddr 6 (.t 1))⟩,
    ⟨(some 53), none, (.load none (.t 52))⟩,
    ⟨(some 54), none, (.len (.t 53))⟩,
    ⟨(some 55), none, (.bin .gtr .none (.t 54) (.c (.v (.int .i64 0))))⟩,
    ⟨(some 56), none, (.mv (.t 55))⟩,
    ⟨(some 57), (some (56, true)), (.faddr 0 (.t 1))⟩,
    ⟨(some 58), (some (56, true)), (.load none (.t 57))⟩,
    ⟨(some 59), (some (56, true)), (.bin .neq .none (.t 58) (.c (.v (.int .i64 0))))⟩,
    ⟨(some 60), none, (.pick (.t 56) (.t 59) (.c (.v (.bool false))))⟩,
    ⟨(some 51), none, (.mv (.t 60))⟩] false) (.cond (.t 51) (.seq [2] (.region [⟨(some 2), none, (.mv (.c (.v (.int .i64 3))))⟩] false) .ret) .skip))))))))))) (.seq [2] (.region [⟨(some 2), none, (.mv (.c (.v (.int .i64 0))))⟩] false) .ret)))⟩
/- standby/standbyref25.Check -/
def s14 : SFn := 
  ⟨.plain, 1, [(.tmp 2)], (.seq [1] (.region [⟨(some 1), none, (.box (.t 0))⟩,
    ⟨(some 2), none, (.mv (.c (.v (.int .i64 0))))⟩] false) (.seq [1] (.seq [1, 10] (.region [⟨(some 3), none, (.faddr 0 (.t 1))⟩,
    ⟨(some 4), none, (.load none (.t 3))⟩,
    ⟨(some 5), none, (.bin .lss .none (.t 4) (.c (.v (.int .i64 0))))⟩,
    ⟨(some 6), none, (.mv (.t 5))⟩,
    ⟨(some 7), (some (6, false)), (.faddr 0 (.t 1))⟩,
    ⟨(some 8), (some (6, false)), (.load none (.t 7))⟩,
    ⟨(some 9), (some (6, false)), (.bin .gtr .none (.t 8) (.c (.v (.int .i64 2))))⟩,
    ⟨(some 10), none, (.pick (.t 6) (.c (.v (.bool true))) (.t 9))⟩] false) (.cond (.t 10) (.seq [2] (.region [⟨(some 2), none, (.mv (.c (.v (.int .i64 1))))⟩] false) .ret) .skip)) (.seq [1] (.seq [1, 36] (.region [⟨(some 11), none, (.faddr 1 (.t 1))⟩,
    ⟨(some 12), none, (.load none (.t 11))⟩,
    ⟨(some 13), none, (.call (.c (.fn 36 [])) [(.t 12)])⟩,
    ⟨(some 14), none, (.un .not (.t 13))⟩,
    ⟨(some 15), none, (.mv (.t 14))⟩,
    ⟨(some 16), (some (15, false)), (.faddr 2 (.t 1))⟩,
    ⟨(some 17), (some (15, false)), (.load none (.t 16))⟩,
    ⟨(some 18), (some (15, false)), (.call (.c (.fn 36 [])) [(.t 17)])⟩,
    ⟨(some 19), (some (15, false)), (.un .not (.t 18))⟩,
    ⟨(some 20), none, (.pick (.t 15) (.c (.v (.bool true))) (.t 19))⟩,
    ⟨(some 21), none, (.mv (.t 20))⟩,
    ⟨(some 22), (some (21, false)), (.faddr 3 (.t 1))⟩,
    ⟨(some 23), (some (21, false)), (.load none (.t 22))⟩,
    ⟨(some 24), (some (21, false)), (.call (.c (.fn 36 [])) [(.t 23)])⟩,
    ⟨(some 25), (some (21, false)), (.un .not (.t 24))⟩,
    ⟨(some 26), none, (.pick (.t 21) (.c (.v (.bool true))) (.t 25))⟩,
    ⟨(some 27), none, (.mv (.t 26))⟩,
    ⟨(some 28), (some (27, false)), (.faddr 4 (.t 1))⟩,
    ⟨(some 29), (some (27, false)), (.load none (.t 28))⟩,
    ⟨(some 30), (some (27, false)), (.bin .lss .none (.t 29) (.c (.v (.int .i64 0))))⟩,
    ⟨(some 31), none, (.pick (.t 27) (.c (.v (.bool true))) (.t 30))⟩,
    ⟨(some 32), none, (.mv (.t 31))⟩,
    ⟨(some 33), (some (32, false)), (.faddr 4 (.t 1))⟩,
    ⟨(some 34), (some (32, false)), (.load none (.t 33))⟩,
    ⟨(some 35), (some (32, false)), (.bin .gtr .none (.t 34) (.c (.v (.int .i64 64))))⟩,
    ⟨(some 36), none, (.pick (.t 32) (.c (.v (.bool true))) (.t 35))⟩] false) (.cond (.t 36) (.seq [2] (.region [⟨(some 2), none, (.mv (.c (.v (.int .i64 2))))⟩] false) .ret) .skip)) (.seq [1] (.seq [1, 42] (.region [⟨(some 37), none, (.faddr 3 (.t 1))⟩,
    ⟨(some 38), none, (.load none (.t 37))⟩,
    ⟨(some 39), none, (.faddr 5 (.t 1))⟩,
    ⟨(some 40), none, (.load none (.t 39))⟩,
    ⟨(some 41), none, (.call (.c (.fn 37 [])) [(.t 38), (.t 40)])⟩,
    ⟨(some 42), none, (.un .not (.t 41))⟩] false) (.cond (.t 42) (.seq [2] (.region [⟨(some 2), none, (.mv (.c (.v (.int .i64 3))))⟩] false) .ret) .skip)) (.seq [1] (.seq [1, 46] (.region [⟨(some 43), none, (.faddr 6 (.t 1))⟩,
    ⟨(some 44), none, (.load none (.t 43))⟩,
    ⟨(some 45), none, (.len (.t 44))⟩,
    ⟨(some 46), none, (.bin .gtr .none (.t 45) (.c (.v (.int .i64 4096))))⟩] false) (.cond (.t 46) (.seq [2] (.region [⟨(some 2), none, (.mv (.c (.v (.int .i64 5))))⟩] false) .ret) .skip)) (.seq [] (.seq [55] (.region [⟨(some 47), none, (.faddr 6 (.t 1))⟩,
    ⟨(some 48), none, (.load none (.t 47))⟩,
    ⟨(some 49), none, (.len (.t 48))⟩,
    ⟨(some 50), none, (.bin .gtr .none (.t 49) (.c (.v (.int .i64 0))))⟩,
    ⟨(some 51), none, (.mv (.t 50))⟩,
    ⟨(some 52), (some (51, true)), (.faddr 0 (.t 1))⟩,
    ⟨(some 53), (some (51, true)), (.load none (.t 52))⟩,
    ⟨(some 54), (some (51, true)), (.bin .neq .none (.t 53) (.c (.v (.int .i64 0))))⟩,
    ⟨(some 55), none, (.pick (.t 51) (.t 54) (.c (.v (.bool false))))⟩] false) (.cond (.t 55) (.seq [2] (.region [⟨(some 2), none, (.mv (.c (.v (.int .i64 3))))⟩] false) .ret) .skip)) (.seq [2] (.region [⟨(some 2), none, (.mv (.c (.v (.int .i64 0))))⟩] false) .ret)))))))⟩
/- slices.Equal[[]standby/api.Extent,standby/api.Extent] -/
def s15b0 : SCode := 
  (.seq [0, 1, 12, 13, 14] (.region [⟨(some 14), none, (.bin .lss .none (.t 13) (.t 12))⟩] false) (.seq [0, 1, 12, 13] (.cond (.t 14) .skip (.exit 0)) (.seq [0, 1, 12, 13] (.block 1 (.seq [0, 1, 5, 12, 13] (.region [⟨(some 15), none, (.mv (.t 13))⟩,
    ⟨(some 5), none, (.mv (.t 15))⟩] false) (.seq [0, 1, 12, 13, 24] (.region [⟨(some 16), none, (.mv (.t 0))⟩,
    ⟨(some 17), none, (.mv (.t 5))⟩,
    ⟨(some 18), none, (.iaddr 2 none (.t 16) (.t 17))⟩,
    ⟨(some 19), none, (.load (some 2) (.t 18))⟩,
    ⟨(some 20), none, (.mv (.t 1))⟩,
    ⟨(some 21), none, (.mv (.t 5))⟩,
    ⟨(some 22), none, (.iaddr 2 none (.t 20) (.t 21))⟩,
    ⟨(some 23), none, (.load (some 2) (.t 22))⟩,
    ⟨(some 24), none, (.bin .neq (.cells 2) (.t 19) (.t 23))⟩] true) (.cond (.t 24) (.seq [4] (.region [⟨(some 4), none, (.mv (.c (.v (.bool false))))⟩] false) .ret) .skip)))) (.region [⟨(some 25), none, (.bin .add .none (.t 13) (.c (.v (.int .i64 1))))⟩,
    ⟨(some 13), none, (.mv (.t 25))⟩] false))))
def s15 : SFn := 
  ⟨.plain, 2, [(.tmp 4)], (.seq [0, 1] (.region [⟨(some 4), none, (.mv (.c (.v (.bool false))))⟩] false) (.seq [0, 1] (.seq [0, 1, 10] (.region [⟨(some 6), none, (.mv (.t 0))⟩,
    ⟨(some 7), none, (.len (.t 6))⟩,
    ⟨(some 8), none, (.mv (.t 1))⟩,
    ⟨(some 9), none, (.len (.t 8))⟩,
    ⟨(some 10), none, (.bin .neq .none (.t 7) (.t 9))⟩] false) (.cond (.t 10) (.seq [4] (.region [⟨(some 4), none, (.mv (.c (.v (.bool false))))⟩] false) .ret) .skip)) (.seq [] (.seq [0, 1, 12, 13] (.region [⟨(some 11), none, (.mv (.t 0))⟩,
    ⟨(some 12), none, (.len (.t 11))⟩,
    ⟨(some 13), none, (.mv (.c (.v (.int .i64 0))))⟩] false) (.block 0 (.loop [0, 1, 12, 13] s15b0))) (.seq [4] (.region [⟨(some 4), none, (.mv (.c (.v (.bool true))))⟩] false) .ret))))⟩
/- standby/packet.Gaps -/
def s16b0 : SCode := 
  (.seq [3, 4, 19, 20, 21, 22] (.region [⟨(some 22), none, (.bin .lss .none (.t 21) (.t 20))⟩] false) (.seq [3, 4, 19, 20, 21] (.cond (.t 22) .skip (.exit 0)) (.seq [3, 4, 19, 20, 21] (.block 1 (.seq [3, 4, 6, 19, 20, 21] (.region [⟨(some 23), none, (.iaddr 2 none (.t 19) (.t 21))⟩,
    ⟨(some 24), none, (.load (some 2) (.t 23))⟩,
    ⟨(some 6), none, (.alloc [(.v (.int .i64 0)), (.v (.int .i64 0))])⟩,
    ⟨none, none, (.store 2 (.t 6) (.t 24))⟩] false) (.seq [3, 6, 19, 20, 21] (.region [⟨(some 25), none, (.mv (.t 3))⟩,
    ⟨(some 26), none, (.mv (.t 4))⟩,
    ⟨(some 27), none, (.faddr 0 (.t 6))⟩,
    ⟨(some 28), none, (.load none (.t 27))⟩,
    ⟨(some 29), none, (.mv (.t 4))⟩,
    ⟨(some 30), none, (.bin .sub .none (.t 28) (.t 29))⟩,
    ⟨(some 31), none, (.build [(.v (.int .i64 0)), (.v (.int .i64 0))] [(0, (1, (.t 26))), (1, (1, (.t 30)))])⟩,
    ⟨(some 32), none, (.bslice [(.v (.int .i64 0)), (.v (.int .i64 0))] 1 [(0, (2, (.t 31)))])⟩,
    ⟨(some 33), none, (.append 2 16 (.t 25) (.t 32))⟩,
    ⟨(some 3), none, (.mv (.t 33))⟩] false) (.region [⟨(some 34), none, (.faddr 0 (.t 6))⟩,
    ⟨(some 35), none, (.load none (.t 34))⟩,
    ⟨(some 36), none, (.faddr 1 (.t 6))⟩,
    ⟨(some 37), none, (.load none (.t 36))⟩,
    ⟨(some 38), none, (.bin .add .none (.t 35) (.t 37))⟩,
    ⟨(some 4), none, (.mv (.t 38))⟩] false)))) (.region [⟨(some 39), none, (.bin .add .none (.t 21) (.c (.v (.int .i64 1))))⟩,
    ⟨(some 21), none, (.mv (.t 39))⟩] false))))
def s16 : SFn := 
  ⟨.plain, 1, [(.tmp 2)], (.seq [1] (.region [⟨(some 1), none, (.box (.t 0))⟩,
    ⟨(some 2), none, (.mv (.c (.v (.slice none 0 0))))⟩] false) (.seq [1] (.seq [1, 15] (.region [⟨(some 7), none, (.load (some 7) (.t 1))⟩,
    ⟨(some 8), none, (.call (.c (.fn 13 [])) [(.t 7)])⟩,
    ⟨(some 9), none, (.bin .neq .none (.t 8) (.c (.v (.int .i64 0))))⟩,
    ⟨(some 10), none, (.mv (.t 9))⟩,
    ⟨(some 11), (some (10, false)), (.faddr 5 (.t 1))⟩,
    ⟨(some 12), (some (10, false)), (.load none (.t 11))⟩,
    ⟨(some 13), (some (10, false)), (.len (.t 12))⟩,
    ⟨(some 14), (some (10, false)), (.bin .eql .none (.t 13) (.c (.v (.int .i64 0))))⟩,
    ⟨(some 15), none, (.pick (.t 10) (.c (.v (.bool true))) (.t 14))⟩] false) (.cond (.t 15) (.seq [2] (.region [⟨(some 2), none, (.mv (.c (.v (.slice none 0 0))))⟩] false) .ret) .skip)) (.seq [1, 3] (.region [⟨(some 3), none, (.mv (.c (.v (.slice none 0 0))))⟩] false) (.seq [1, 3, 4] (.region [⟨(some 16), none, (.faddr 3 (.t 1))⟩,
    ⟨(some 17), none, (.load none (.t 16))⟩,
    ⟨(some 4), none, (.mv (.t 17))⟩] false) (.seq [3] (.seq [3, 4, 19, 20, 21] (.region [⟨(some 18), none, (.faddr 5 (.t 1))⟩,
    ⟨(some 19), none, (.load none (.t 18))⟩,
    ⟨(some 20), none, (.len (.t 19))⟩,
    ⟨(some 21), none, (.mv (.c (.v (.int .i64 0))))⟩] false) (.block 0 (.loop [3, 4, 19, 20, 21] s16b0))) (.seq [2] (.region [⟨(some 40), none, (.mv (.t 3))⟩,
    ⟨(some 2), none, (.mv (.t 40))⟩] false) .ret))))))⟩
/- standby/standbyref25.Gaps -/
def s17b0 : SCode := 
  (.seq [1, 3, 4, 5] (.seq [1, 3, 4, 5, 15] (.region [⟨(some 11), none, (.mv (.t 5))⟩,
    ⟨(some 12), none, (.faddr 5 (.t 1))⟩,
    ⟨(some 13), none, (.load none (.t 12))⟩,
    ⟨(some 14), none, (.len (.t 13))⟩,
    ⟨(some 15), none, (.bin .lss .none (.t 11) (.t 14))⟩] false) (.cond (.t 15) .skip (.exit 0))) (.seq [1, 3, 4, 5] (.block 1 (.seq [1, 3, 5] (.region [⟨(some 18), none, (.mv (.t 3))⟩,
    ⟨(some 19), none, (.mv (.t 4))⟩,
    ⟨(some 20), none, (.faddr 5 (.t 1))⟩,
    ⟨(some 21), none, (.load none (.t 20))⟩,
    ⟨(some 22), none, (.mv (.t 5))⟩,
    ⟨(some 23), none, (.iaddr 2 none (.t 21) (.t 22))⟩,
    ⟨(some 24), none, (.faddr 0 (.t 23))⟩,
    ⟨(some 25), none, (.load none (.t 24))⟩,
    ⟨(some 26), none, (.mv (.t 4))⟩,
    ⟨(some 27), none, (.bin .sub .none (.t 25) (.t 26))⟩,
    ⟨(some 28), none, (.build [(.v (.int .i64 0)), (.v (.int .i64 0))] [(0, (1, (.t 19))), (1, (1, (.t 27)))])⟩,
    ⟨(some 29), none, (.bslice [(.v (.int .i64 0)), (.v (.int .i64 0))] 1 [(0, (2, (.t 28)))])⟩,
    ⟨(some 30), none, (.append 2 16 (.t 18) (.t 29))⟩,
    ⟨(some 3), none, (.mv (.t 30))⟩] false) (.region [⟨(some 31), none, (.faddr 5 (.t 1))⟩,
    ⟨(some 32), none, (.load none (.t 31))⟩,
    ⟨(some 33), none, (.mv (.t 5))⟩,
    ⟨(some 34), none, (.iaddr 2 none (.t 32) (.t 33))⟩,
    ⟨(some 35), none, (.faddr 0 (.t 34))⟩,
    ⟨(some 36), none, (.load none (.t 35))⟩,
    ⟨(some 37), none, (.faddr 5 (.t 1))⟩,
    ⟨(some 38), none, (.load none (.t 37))⟩,
    ⟨(some 39), none, (.mv (.t 5))⟩,
    ⟨(some 40), none, (.iaddr 2 none (.t 38) (.t 39))⟩,
    ⟨(some 41), none, (.faddr 1 (.t 40))⟩,
    ⟨(some 42), none, (.load none (.t 41))⟩,
    ⟨(some 43), none, (.bin .add .none (.t 36) (.t 42))⟩,
    ⟨(some 4), none, (.mv (.t 43))⟩] true))) (.region [⟨(some 16), none, (.mv (.t 5))⟩,
    ⟨(some 17), none, (.bin .add .none (.t 16) (.c (.v (.int .i64 1))))⟩,
    ⟨(some 5), none, (.mv (.t 17))⟩] false)))
def s17 : SFn := 
  ⟨.plain, 1, [(.tmp 2)], (.seq [1] (.region [⟨(some 1), none, (.box (.t 0))⟩,
    ⟨(some 2), none, (.mv (.c (.v (.slice none 0 0))))⟩] false) (.seq [1] (.seq [1, 8] (.region [⟨(some 6), none, (.load (some 7) (.t 1))⟩,
    ⟨(some 7), none, (.call (.c (.fn 14 [])) [(.t 6)])⟩,
    ⟨(some 8), none, (.bin .neq .none (.t 7) (.c (.v (.int .i64 0))))⟩] false) (.cond (.t 8) (.seq [2] (.region [⟨(some 2), none, (.mv (.c (.v (.slice none 0 0))))⟩] false) .ret) .skip)) (.seq [1, 3] (.region [⟨(some 3), none, (.mv (.c (.v (.slice none 0 0))))⟩] false) (.seq [1, 3, 4] (.region [⟨(some 9), none, (.faddr 3 (.t 1))⟩,
    ⟨(some 10), none, (.load none (.t 9))⟩,
    ⟨(some 4), none, (.mv (.t 10))⟩] false) (.seq [3] (.seq [1, 3, 4, 5] (.region [⟨(some 5), none, (.mv (.c (.v (.int .i64 0))))⟩] false) (.block 0 (.loop [1, 3, 4, 5] s17b0))) (.seq [2] (.region [⟨(some 44), none, (.mv (.t 3))⟩,
    ⟨(some 2), none, (.mv (.t 44))⟩] false) .ret))))))⟩
/- standby/packet.Encode -/
def s18b0 : SCode := 
  (.seq [1, 5, 23, 24, 25, 26] (.region [⟨(some 26), none, (.bin .lss .none (.t 25) (.t 24))⟩] false) (.seq [1, 5, 23, 24, 25] (.cond (.t 26) .skip (.exit 0)) (.seq [1, 5, 23, 24, 25] (.block 1 (.seq [1, 5, 7, 23, 24, 25] (.region [⟨(some 27), none, (.iaddr 1 none (.t 23) (.t 25))⟩,
    ⟨(some 28), none, (.load none (.t 27))⟩,
    ⟨(some 7), none, (.mv (.t 28))⟩] false) (.region [⟨(some 29), none, (.mv (.t 5))⟩,
    ⟨(some 30), none, (.mv (.t 7))⟩,
    ⟨(some 31), none, (.call (.c (.fn 38 [])) [(.t 29), (.t 30)])⟩,
    ⟨(some 5), none, (.mv (.t 31))⟩] false))) (.region [⟨(some 32), none, (.bin .add .none (.t 25) (.c (.v (.int .i64 1))))⟩,
    ⟨(some 25), none, (.mv (.t 32))⟩] false))))
def s18 : SFn := 
  ⟨.plain, 1, [(.tmp 2), (.tmp 3)], (.seq [1] (.region [⟨(some 1), none, (.box (.t 0))⟩,
    ⟨(some 2), none, (.mv (.c (.v (.slice none 0 0))))⟩,
    ⟨(some 3), none, (.mv (.c (.v (.int .i64 0))))⟩] false) (.seq [1] (.seq [1, 4] (.region [⟨(some 8), none, (.load (some 7) (.t 1))⟩,
    ⟨(some 9), none, (.call (.c (.fn 13 [])) [(.t 8)])⟩,
    ⟨(some 4), none, (.mv (.t 9))⟩] false) (.seq [1, 4, 11] (.region [⟨(some 10), none, (.mv (.t 4))⟩,
    ⟨(some 11), none, (.bin .neq .none (.t 10) (.c (.v (.int .i64 0))))⟩] false) (.cond (.t 11) (.seq [2, 3] (.region [⟨(some 12), none, (.mv (.t 4))⟩,
    ⟨(some 2), none, (.mv (.c (.v (.slice none 0 0))))⟩,
    ⟨(some 3), none, (.mv (.t 12))⟩] false) .ret) .skip))) (.seq [1, 5] (.region [⟨(some 5), none, (.mv (.c (.v (.slice none 0 0))))⟩] false) (.seq [1, 5] (.seq [1, 5, 23, 24, 25] (.region [⟨(some 13), none, (.faddr 0 (.t 1))⟩,
    ⟨(some 14), none, (.load none (.t 13))⟩,
    ⟨(some 15), none, (.faddr 1 (.t 1))⟩,
    ⟨(some 16), none, (.load none (.t 15))⟩,
    ⟨(some 17), none, (.faddr 2 (.t 1))⟩,
    ⟨(some 18), none, (.load none (.t 17))⟩,
    ⟨(some 19), none, (.faddr 3 (.t 1))⟩,
    ⟨(some 20), none, (.load none (.t 19))⟩,
    ⟨(some 21), none, (.faddr 4 (.t 1))⟩,
    ⟨(some 22), none, (.load none (.t 21))⟩,
    ⟨(some 23), none, (.bslice [(.v (.int .i64 0))] 5 [(0, (1, (.t 14))), (1, (1, (.t 16))), (2, (1, (.t 18))), (3, (1, (.t 20))), (4, (1, (.t 22)))])⟩,
    ⟨(some 24), none, (.len (.t 23))⟩,
    ⟨(some 25), none, (.mv (.c (.v (.int .i64 0))))⟩] false) (.block 0 (.loop [1, 5, 23, 24, 25] s18b0))) (.seq [2, 3] (.region [⟨(some 33), none, (.mv (.t 5))⟩,
    ⟨(some 34), none, (.faddr 5 (.t 1))⟩,
    ⟨(some 35), none, (.load none (.t 34))⟩,
    ⟨(some 36), none, (.call (.c (.fn 41 [])) [(.t 33), (.t 35)])⟩,
    ⟨(some 37), none, (.faddr 6 (.t 1))⟩,
    ⟨(some 38), none, (.load none (.t 37))⟩,
    ⟨(some 39), none, (.call (.c (.fn 40 [])) [(.t 36), (.t 38)])⟩,
    ⟨(some 40), none, (.call (.c (.fn 39 [])) [(.t 39)])⟩,
    ⟨(some 2), none, (.mv (.t 40))⟩,
    ⟨(some 3), none, (.mv (.c (.v (.int .i64 0))))⟩] true) .ret)))))⟩
/- standby/standbyref25.Encode -/
def s19 : SFn := 
  ⟨.plain, 1, [(.tmp 2), (.tmp 3)], (.seq [1] (.region [⟨(some 1), none, (.box (.t 0))⟩,
    ⟨(some 2), none, (.mv (.c (.v (.slice none 0 0))))⟩,
    ⟨(some 3), none, (.mv (.c (.v (.int .i64 0))))⟩] false) (.seq [1] (.seq [1, 4] (.region [⟨(some 6), none, (.load (some 7) (.t 1))⟩,
    ⟨(some 7), none, (.call (.c (.fn 14 [])) [(.t 6)])⟩,
    ⟨(some 4), none, (.mv (.t 7))⟩] false) (.seq [1, 4, 9] (.region [⟨(some 8), none, (.mv (.t 4))⟩,
    ⟨(some 9), none, (.bin .neq .none (.t 8) (.c (.v (.int .i64 0))))⟩] false) (.cond (.t 9) (.seq [2, 3] (.region [⟨(some 10), none, (.mv (.t 4))⟩,
    ⟨(some 2), none, (.mv (.c (.v (.slice none 0 0))))⟩,
    ⟨(some 3), none, (.mv (.t 10))⟩] false) .ret) .skip))) (.seq [1, 5] (.region [⟨(some 11), none, (.faddr 0 (.t 1))⟩,
    ⟨(some 12), none, (.load none (.t 11))⟩,
    ⟨(some 13), none, (.call (.c (.fn 42 [])) [(.c (.v (.slice none 0 0))), (.t 12)])⟩,
    ⟨(some 5), none, (.mv (.t 13))⟩] false) (.seq [1, 5] (.region [⟨(some 14), none, (.mv (.t 5))⟩,
    ⟨(some 15), none, (.faddr 1 (.t 1))⟩,
    ⟨(some 16), none, (.load none (.t 15))⟩,
    ⟨(some 17), none, (.call (.c (.fn 42 [])) [(.t 14), (.t 16)])⟩,
    ⟨(some 5), none, (.mv (.t 17))⟩] false) (.seq [1, 5] (.region [⟨(some 18), none, (.mv (.t 5))⟩,
    ⟨(some 19), none, (.faddr 2 (.t 1))⟩,
    ⟨(some 20), none, (.load none (.t 19))⟩,
    ⟨(some 21), none, (.call (.c (.fn 42 [])) [(.t 18), (.t 20)])⟩,
    ⟨(some 5), none, (.mv (.t 21))⟩] false) (.seq [1, 5] (.region [⟨(some 22), none, (.mv (.t 5))⟩,
    ⟨(some 23), none, (.faddr 3 (.t 1))⟩,
    ⟨(some 24), none, (.load none (.t 23))⟩,
    ⟨(some 25), none, (.call (.c (.fn 42 [])) [(.t 22), (.t 24)])⟩,
    ⟨(some 5), none, (.mv (.t 25))⟩] false) (.seq [1, 5] (.region [⟨(some 26), none, (.mv (.t 5))⟩,
    ⟨(some 27), none, (.faddr 4 (.t 1))⟩,
    ⟨(some 28), none, (.load none (.t 27))⟩,
    ⟨(some 29), none, (.call (.c (.fn 42 [])) [(.t 26), (.t 28)])⟩,
    ⟨(some 5), none, (.mv (.t 29))⟩] false) (.seq [1, 5] (.region [⟨(some 30), none, (.mv (.t 5))⟩,
    ⟨(some 31), none, (.faddr 5 (.t 1))⟩,
    ⟨(some 32), none, (.load none (.t 31))⟩,
    ⟨(some 33), none, (.call (.c (.fn 43 [])) [(.t 30), (.t 32)])⟩,
    ⟨(some 5), none, (.mv (.t 33))⟩] false) (.seq [2, 3] (.region [⟨(some 34), none, (.mv (.t 5))⟩,
    ⟨(some 35), none, (.faddr 6 (.t 1))⟩,
    ⟨(some 36), none, (.load none (.t 35))⟩,
    ⟨(some 37), none, (.call (.c (.fn 44 [])) [(.t 34), (.t 36)])⟩,
    ⟨(some 38), none, (.call (.c (.fn 21 [])) [(.t 37)])⟩,
    ⟨(some 2), none, (.mv (.t 38))⟩,
    ⟨(some 3), none, (.mv (.c (.v (.int .i64 0))))⟩] false) .ret)))))))))⟩
/- bytes.Equal -/
def s20 : SFn := 
  ⟨.plain, 2, [(.tmp 4)], (.seq [0, 1] (.region [⟨(some 4), none, (.mv (.c (.v (.bool false))))⟩] false) (.seq [4] (.region [⟨(some 5), none, (.mv (.t 0))⟩,
    ⟨(some 6), none, (.tostr (.t 5))⟩,
    ⟨(some 7), none, (.mv (.t 1))⟩,
    ⟨(some 8), none, (.tostr (.t 7))⟩,
    ⟨(some 9), none, (.bin .eql .none (.t 6) (.t 8))⟩,
    ⟨(some 4), none, (.mv (.t 9))⟩] false) .ret))⟩
/- standby/standbyref25.Sealed -/
def s21 : SFn := 
  ⟨.keep, 1, [(.tmp 2)], (.seq [0] (.region [⟨(some 2), none, (.mv (.c (.v (.slice none 0 0))))⟩] false) (.seq [0, 3] (.region [⟨(some 3), none, (.mv (.c (.v (.slice none 0 0))))⟩] false) (.seq [0, 3] (.region [⟨(some 5), none, (.mv (.t 3))⟩,
    ⟨(some 6), none, (.mv (.t 0))⟩,
    ⟨(some 7), none, (.append 1 1 (.t 5) (.t 6))⟩,
    ⟨(some 3), none, (.mv (.t 7))⟩] false) (.seq [3, 4] (.region [⟨(some 8), none, (.mv (.t 0))⟩,
    ⟨(some 9), none, (.call (.c (.fn 33 [])) [(.t 8)])⟩,
    ⟨(some 4), none, (.mv (.t 9))⟩] false) (.seq [2] (.region [⟨(some 10), none, (.mv (.t 3))⟩,
    ⟨(some 11), none, (.mv (.t 4))⟩,
    ⟨(some 12), none, (.conv .u8 (.t 11))⟩,
    ⟨(some 13), none, (.mv (.t 4))⟩,
    ⟨(some 14), none, (.bin .shr .none (.t 13) (.c (.v (.int .u64 8))))⟩,
    ⟨(some 15), none, (.conv .u8 (.t 14))⟩,
    ⟨(some 16), none, (.mv (.t 4))⟩,
    ⟨(some 17), none, (.bin .shr .none (.t 16) (.c (.v (.int .u64 16))))⟩,
    ⟨(some 18), none, (.conv .u8 (.t 17))⟩,
    ⟨(some 19), none, (.mv (.t 4))⟩,
    ⟨(some 20), none, (.bin .shr .none (.t 19) (.c (.v (.int .u64 24))))⟩,
    ⟨(some 21), none, (.conv .u8 (.t 20))⟩,
    ⟨(some 22), none, (.bslice [(.v (.int .u8 0))] 4 [(0, (1, (.t 12))), (1, (1, (.t 15))), (2, (1, (.t 18))), (3, (1, (.t 21)))])⟩,
    ⟨(some 23), none, (.append 1 1 (.t 10) (.t 22))⟩,
    ⟨(some 2), none, (.mv (.t 23))⟩] false) .ret)))))⟩
/- standby/packet.Decode -/
def s22 : SFn := 
  ⟨.guard, 1, [(.cell 2 (some 7)), (.cell 3 none)], (.seq [0, 2, 3] (.region [⟨(some 2), none, (.alloc [(.v (.int .i64 0)), (.v (.int .i64 0)), (.v (.int .i64 0)), (.v (.int .i64 0)), (.v (.int .i64 0)), (.v (.slice none 0 0)), (.v (.slice none 0 0))])⟩,
    ⟨(some 3), none, (.alloc [(.v (.int .i64 0))])⟩] false) (.seq [0, 2, 3] (.region [⟨(some 5), none, (.mkfn 45 [(.t 2), (.t 3)])⟩,
    ⟨none, none, (.defer (.t 5))⟩] false) (.seq [2, 3, 4] (.region [⟨(some 6), none, (.mv (.t 0))⟩,
    ⟨(some 7), none, (.call (.c (.fn 47 [])) [(.t 6)])⟩,
    ⟨(some 4), none, (.mv (.t 7))⟩] false) (.seq [2, 3, 4] (.region [⟨(some 8), none, (.mv (.t 4))⟩,
    ⟨(some 9), none, (.mv (.t 4))⟩,
    ⟨(some 10), none, (.nilck (.t 9))⟩,
    ⟨(some 11), none, (.faddr 0 (.t 10))⟩,
    ⟨(some 12), none, (.faddr 0 (.t 2))⟩,
    ⟨(some 13), none, (.call (.c (.fn 48 [])) [(.t 11), (.t 12)])⟩,
    ⟨(some 14), none, (.mv (.t 4))⟩,
    ⟨(some 15), none, (.nilck (.t 14))⟩,
    ⟨(some 16), none, (.faddr 0 (.t 15))⟩,
    ⟨(some 17), none, (.faddr 1 (.t 2))⟩,
    ⟨(some 18), none, (.call (.c (.fn 48 [])) [(.t 16), (.t 17)])⟩,
    ⟨(some 19), none, (.mv (.t 4))⟩,
    ⟨(some 20), none, (.nilck (.t 19))⟩,
    ⟨(some 21), none, (.faddr 0 (.t 20))⟩,
    ⟨(some 22), none, (.faddr 2 (.t 2))⟩,
    ⟨(some 23), none, (.call (.c (.fn 48 [])) [(.t 21), (.t 22)])⟩,
    ⟨(some 24), none, (.mv (.t 4))⟩,
    ⟨(some 25), none, (.nilck (.t 24))⟩,
    ⟨(some 26), none, (.faddr 0 (.t 25))⟩,
    ⟨(some 27), none, (.faddr 3 (.t 2))⟩,
    ⟨(some 28), none, (.call (.c (.fn 48 [])) [(.t 26), (.t 27)])⟩,
    ⟨(some 29), none, (.mv (.t 4))⟩,
    ⟨(some 30), none, (.nilck (.t 29))⟩,
    ⟨(some 31), none, (.faddr 0 (.t 30))⟩,
    ⟨(some 32), none, (.faddr 4 (.t 2))⟩,
    ⟨(some 33), none, (.call (.c (.fn 48 [])) [(.t 31), (.t 32)])⟩,
    ⟨(some 34), none, (.mv (.t 4))⟩,
    ⟨(some 35), none, (.nilck (.t 34))⟩,
    ⟨(some 36), none, (.faddr 0 (.t 35))⟩,
    ⟨(some 37), none, (.faddr 5 (.t 2))⟩,
    ⟨(some 38), none, (.call (.c (.fn 49 [])) [(.t 36), (.t 37)])⟩,
    ⟨(some 39), none, (.mv (.t 4))⟩,
    ⟨(some 40), none, (.nilck (.t 39))⟩,
    ⟨(some 41), none, (.faddr 0 (.t 40))⟩,
    ⟨(some 42), none, (.faddr 6 (.t 2))⟩,
    ⟨(some 43), none, (.call (.c (.fn 50 [])) [(.t 41), (.t 42)])⟩,
    ⟨(some 44), none, (.bslice [(.v .nilFunc)] 7 [(0, (1, (.t 13))), (1, (1, (.t 18))), (2, (1, (.t 23))), (3, (1, (.t 28))), (4, (1, (.t 33))), (5, (1, (.t 38))), (6, (1, (.t 43)))])⟩,
    ⟨(some 45), none, (.nilck (.t 8))⟩,
    ⟨(some 46), none, (.faddr 1 (.t 45))⟩,
    ⟨none, none, (.store 1 (.t 46) (.t 44))⟩] true) (.seq [2, 3] (.region [⟨(some 47), none, (.mv (.t 4))⟩,
    ⟨(some 48), none, (.call (.c (.fn 51 [])) [(.t 47)])⟩] false) (.seq [2, 3] (.region [⟨(some 49), none, (.load (some 7) (.t 2))⟩,
    ⟨(some 50), none, (.call (.c (.fn 13 [])) [(.t 49)])⟩,
    ⟨(some 51), none, (.call (.c (.fn 52 [])) [(.t 50)])⟩] false) (.seq [2, 3] (.region [⟨(some 52), none, (.load (some 7) (.t 2))⟩,
    ⟨none, none, (.store 7 (.t 2) (.t 52))⟩,
    ⟨none, none, (.store 1 (.t 3) (.c (.v (.int .i64 0))))⟩] false) .ret)))))))⟩
/- standby/standbyref25.Decode -/
def s23 : SFn := 
  ⟨.plain, 1, [(.cell 2 (some 7)), (.tmp 3)], (.seq [0, 2] (.region [⟨(some 2), none, (.alloc [(.v (.int .i64 0)), (.v (.int .i64 0)), (.v (.int .i64 0)), (.v (.int .i64 0)), (.v (.int .i64 0)), (.v (.slice none 0 0)), (.v (.slice none 0 0))])⟩,
    ⟨(some 3), none, (.mv (.c (.v (.int .i64 0))))⟩] false) (.seq [0, 2, 4] (.region [⟨(some 11), none, (.mv (.t 0))⟩,
    ⟨(some 12), none, (.call (.c (.fn 53 [])) [(.t 11)])⟩,
    ⟨(some 10), none, (.mv (.t 12))⟩,
    ⟨(some 13), none, (.extract (.t 10) 0)⟩,
    ⟨(some 14), none, (.extract (.t 10) 1)⟩,
    ⟨(some 0), none, (.mv (.t 13))⟩,
    ⟨(some 4), none, (.mv (.t 14))⟩] false) (.seq [0, 2] (.seq [0, 2, 4, 16] (.region [⟨(some 15), none, (.mv (.t 4))⟩,
    ⟨(some 16), none, (.bin .neq .none (.t 15) (.c (.v (.int .i64 0))))⟩] false) (.cond (.t 16) (.seq [2, 3] (.region [⟨(some 17), none, (.build [(.v (.int .i64 0)), (.v (.int .i64 0)), (.v (.int .i64 0)), (.v (.int .i64 0)), (.v (.int .i64 0)), (.v (.slice none 0 0)), (.v (.slice none 0 0))] [])⟩,
    ⟨(some 18), none, (.mv (.t 4))⟩,
    ⟨none, none, (.store 7 (.t 2) (.t 17))⟩,
    ⟨(some 3), none, (.mv (.t 18))⟩] false) .ret) .skip)) (.seq [0, 2, 4, 5] (.region [⟨(some 20), none, (.mv (.t 0))⟩,
    ⟨(some 21), none, (.call (.c (.fn 54 [])) [(.t 20), (.c (.v (.int .i64 5)))])⟩,
    ⟨(some 19), none, (.mv (.t 21))⟩,
    ⟨(some 22), none, (.extract (.t 19) 0)⟩,
    ⟨(some 23), none, (.extract (.t 19) 1)⟩,
    ⟨(some 24), none, (.extract (.t 19) 2)⟩,
    ⟨(some 5), none, (.mv (.t 22))⟩,
    ⟨(some 0), none, (.mv (.t 23))⟩,
    ⟨(some 4), none, (.mv (.t 24))⟩] false) (.seq [0, 2, 5] (.seq [0, 2, 4, 5, 26] (.region [⟨(some 25), none, (.mv (.t 4))⟩,
    ⟨(some 26), none, (.bin .neq .none (.t 25) (.c (.v (.int .i64 0))))⟩] false) (.cond (.t 26) (.seq [2, 3] (.region [⟨(some 27), none, (.build [(.v (.int .i64 0)), (.v (.int .i64 0)), (.v (.int .i64 0)), (.v (.int .i64 0)), (.v (.int .i64 0)), (.v (.slice none 0 0)), (.v (.slice none 0 0))] [])⟩,
    ⟨(some 28), none, (.mv (.t 4))⟩,
    ⟨none, none, (.store 7 (.t 2) (.t 27))⟩,
    ⟨(some 3), none, (.mv (.t 28))⟩] false) .ret) .skip)) (.seq [0, 2, 4, 5, 6] (.region [⟨(some 30), none, (.mv (.t 0))⟩,
    ⟨(some 31), none, (.call (.c (.fn 55 [])) [(.t 30)])⟩,
    ⟨(some 29), none, (.mv (.t 31))⟩,
    ⟨(some 32), none, (.extract (.t 29) 0)⟩,
    ⟨(some 33), none, (.extract (.t 29) 1)⟩,
    ⟨(some 34), none, (.extract (.t 29) 2)⟩,
    ⟨(some 6), none, (.mv (.t 32))⟩,
    ⟨(some 0), none, (.mv (.t 33))⟩,
    ⟨(some 4), none, (.mv (.t 34))⟩] false) (.seq [0, 2, 5, 6] (.seq [0, 2, 4, 5, 6, 36] (.region [⟨(some 35), none, (.mv (.t 4))⟩,
    ⟨(some 36), none, (.bin .neq .none (.t 35) (.c (.v (.int .i64 0))))⟩] false) (.cond (.t 36) (.seq [2, 3] (.region [⟨(some 37), none, (.build [(.v (.int .i64 0)), (.v (.int .i64 0)), (.v (.int .i64 0)), (.v (.int .i64 0)), (.v (.int .i64 0)), (.v (.slice none 0 0)), (.v (.slice none 0 0))] [])⟩,
    ⟨(some 38), none, (.mv (.t 4))⟩,
    ⟨none, none, (.store 7 (.t 2) (.t 37))⟩,
    ⟨(some 3), none, (.mv (.t 38))⟩] false) .ret) .skip)) (.seq [0, 2, 4, 5, 6, 7] (.region [⟨(some 40), none, (.mv (.t 0))⟩,
    ⟨(some 41), none, (.call (.c (.fn 56 [])) [(.t 40)])⟩,
    ⟨(some 39), none, (.mv (.t 41))⟩,
    ⟨(some 42), none, (.extract (.t 39) 0)⟩,
    ⟨(some 43), none, (.extract (.t 39) 1)⟩,
    ⟨(some 44), none, (.extract (.t 39) 2)⟩,
    ⟨(some 7), none, (.mv (.t 42))⟩,
    ⟨(some 0), none, (.mv (.t 43))⟩,
    ⟨(some 4), none, (.mv (.t 44))⟩] false) (.seq [0, 2, 5, 6, 7] (.seq [0, 2, 4, 5, 6, 7, 46] (.region [⟨(some 45), none, (.mv (.t 4))⟩,
    ⟨(some 46), none, (.bin .neq .none (.t 45) (.c (.v (.int .i64 0))))⟩] false) (.cond (.t 46) (.seq [2, 3] (.region [⟨(some 47), none, (.build [(.v (.int .i64 0)), (.v (.int .i64 0)), (.v (.int .i64 0)), (.v (.int .i64 0)), (.v (.int .i64 0)), (.v (.slice none 0 0)), (.v (.slice none 0 0))] [])⟩,
    ⟨(some 48), none, (.mv (.t 4))⟩,
    ⟨none, none, (.store 7 (.t 2) (.t 47))⟩,
    ⟨(some 3), none, (.mv (.t 48))⟩] false) .ret) .skip)) (.seq [2, 5, 6, 7] (.seq [2, 5, 6, 7, 51] (.region [⟨(some 49), none, (.mv (.t 0))⟩,
    ⟨(some 50), none, (.len (.t 49))⟩,
    ⟨(some 51), none, (.bin .gtr .none (.t 50) (.c (.v (.int .i64 0))))⟩] false) (.cond (.t 51) (.seq [2, 3] (.region [⟨(some 52), none, (.build [(.v (.int .i64 0)), (.v (.int .i64 0)), (.v (.int .i64 0)), (.v (.int .i64 0)), (.v (.int .i64 0)), (.v (.slice none 0 0)), (.v (.slice none 0 0))] [])⟩,
    ⟨none, none, (.store 7 (.t 2) (.t 52))⟩,
    ⟨(some 3), none, (.mv (.c (.v (.int .i64 3))))⟩] false) .ret) .skip)) (.seq [2, 8] (.region [⟨(some 53), none, (.mv (.t 5))⟩,
    ⟨(some 54), none, (.iaddr 1 none (.t 53) (.c (.v (.int .i64 0))))⟩,
    ⟨(some 55), none, (.load none (.t 54))⟩,
    ⟨(some 56), none, (.mv (.t 5))⟩,
    ⟨(some 57), none, (.iaddr 1 none (.t 56) (.c (.v (.int .i64 1))))⟩,
    ⟨(some 58), none, (.load none (.t 57))⟩,
    ⟨(some 59), none, (.mv (.t 5))⟩,
    ⟨(some 60), none, (.iaddr 1 none (.t 59) (.c (.v (.int .i64 2))))⟩,
    ⟨(some 61), none, (.load none (.t 60))⟩,
    ⟨(some 62), none, (.mv (.t 5))⟩,
    ⟨(some 63), none, (.iaddr 1 none (.t 62) (.c (.v (.int .i64 3))))⟩,
    ⟨(some 64), none, (.load none (.t 63))⟩,
    ⟨(some 65), none, (.mv (.t 5))⟩,
    ⟨(some 66), none, (.iaddr 1 none (.t 65) (.c (.v (.int .i64 4))))⟩,
    ⟨(some 67), none, (.load none (.t 66))⟩,
    ⟨(some 68), none, (.mv (.t 6))⟩,
    ⟨(some 69), none, (.mv (.t 7))⟩,
    ⟨(some 70), none, (.build [(.v (.int .i64 0)), (.v (.int .i64 0)), (.v (.int .i64 0)), (.v (.int .i64 0)), (.v (.int .i64 0)), (.v (.slice none 0 0)), (.v (.slice none 0 0))] [(0, (1, (.t 55))), (1, (1, (.t 58))), (2, (1, (.t 61))), (3, (1, (.t 64))), (4, (1, (.t 67))), (5, (1, (.t 68))), (6, (1, (.t 69)))])⟩,
    ⟨(some 8), none, (.alloc [(.v (.int .i64 0)), (.v (.int .i64 0)), (.v (.int .i64 0)), (.v (.int .i64 0)), (.v (.int .i64 0)), (.v (.slice none 0 0)), (.v (.slice none 0 0))])⟩,
    ⟨none, none, (.store 7 (.t 8) (.t 70))⟩] true) (.seq [2, 8] (.seq [2, 8, 9] (.region [⟨(some 71), none, (.load (some 7) (.t 8))⟩,
    ⟨(some 72), none, (.call (.c (.fn 14 [])) [(.t 71)])⟩,
    ⟨(some 9), none, (.mv (.t 72))⟩] false) (.seq [2, 8, 9, 74] (.region [⟨(some 73), none, (.mv (.t 9))⟩,
    ⟨(some 74), none, (.bin .neq .none (.t 73) (.c (.v (.int .i64 0))))⟩] false) (.cond (.t 74) (.seq [2, 3] (.region [⟨(some 75), none, (.build [(.v (.int .i64 0)), (.v (.int .i64 0)), (.v (.int .i64 0)), (.v (.int .i64 0)), (.v (.int .i64 0)), (.v (.slice none 0 0)), (.v (.slice none 0 0))] [])⟩,
    ⟨(some 76), none, (.mv (.t 9))⟩,
    ⟨none, none, (.store 7 (.t 2) (.t 75))⟩,
    ⟨(some 3), none, (.mv (.t 76))⟩] false) .ret) .skip))) (.seq [2, 3] (.region [⟨(some 77), none, (.load (some 7) (.t 8))⟩,
    ⟨none, none, (.store 7 (.t 2) (.t 77))⟩,
    ⟨(some 3), none, (.mv (.c (.v (.int .i64 0))))⟩] false) .ret)))))))))))))⟩
/- standby/packet.DecodeMessage -/
def s24 : SFn := 
  ⟨.guard, 1, [(.cell 2 (some 8)), (.cell 3 none)], (.seq [0, 2, 3] (.region [⟨(some 2), none, (.alloc [(.v (.int .i64 0)), (.v (.int .i64 0)), (.v (.int .i64 0)), (.v (.int .i64 0)), (.v (.int .i64 0)), (.v (.int .i64 0)), (.v (.slice none 0 0)), (.v (.slice none 0 0))])⟩,
    ⟨(some 3), none, (.alloc [(.v (.int .i64 0))])⟩] false) (.seq [0, 2, 3] (.region [⟨(some 5), none, (.mkfn 57 [(.t 2), (.t 3)])⟩,
    ⟨none, none, (.defer (.t 5))⟩] false) (.seq [2, 3, 4] (.region [⟨(some 6), none, (.mv (.t 0))⟩,
    ⟨(some 7), none, (.call (.c (.fn 47 [])) [(.t 6)])⟩,
    ⟨(some 4), none, (.mv (.t 7))⟩] false) (.seq [2, 3, 4] (.region [⟨(some 8), none, (.mv (.t 4))⟩,
    ⟨(some 9), none, (.mv (.t 4))⟩,
    ⟨(some 10), none, (.nilck (.t 9))⟩,
    ⟨(some 11), none, (.faddr 0 (.t 10))⟩,
    ⟨(some 12), none, (.faddr 0 (.t 2))⟩,
    ⟨(some 13), none, (.call (.c (.fn 48 [])) [(.t 11), (.t 12)])⟩,
    ⟨(some 14), none, (.mv (.t 4))⟩,
    ⟨(some 15), none, (.nilck (.t 14))⟩,
    ⟨(some 16), none, (.faddr 0 (.t 15))⟩,
    ⟨(some 17), none, (.faddr 1 (.t 2))⟩,
    ⟨(some 18), none, (.call (.c (.fn 48 [])) [(.t 16), (.t 17)])⟩,
    ⟨(some 19), none, (.mv (.t 4))⟩,
    ⟨(some 20), none, (.nilck (.t 19))⟩,
    ⟨(some 21), none, (.faddr 0 (.t 20))⟩,
    ⟨(some 22), none, (.faddr 2 (.t 2))⟩,
    ⟨(some 23), none, (.call (.c (.fn 48 [])) [(.t 21), (.t 22)])⟩,
    ⟨(some 24), none, (.mv (.t 4))⟩,
    ⟨(some 25), none, (.nilck (.t 24))⟩,
    ⟨(some 26), none, (.faddr 0 (.t 25))⟩,
    ⟨(some 27), none, (.faddr 3 (.t 2))⟩,
    ⟨(some 28), none, (.call (.c (.fn 48 [])) [(.t 26), (.t 27)])⟩,
    ⟨(some 29), none, (.mv (.t 4))⟩,
    ⟨(some 30), none, (.nilck (.t 29))⟩,
    ⟨(some 31), none, (.faddr 0 (.t 30))⟩,
    ⟨(some 32), none, (.faddr 4 (.t 2))⟩,
    ⟨(some 33), none, (.call (.c (.fn 48 [])) [(.t 31), (.t 32)])⟩,
    ⟨(some 34), none, (.mv (.t 4))⟩,
    ⟨(some 35), none, (.nilck (.t 34))⟩,
    ⟨(some 36), none, (.faddr 0 (.t 35))⟩,
    ⟨(some 37), none, (.faddr 5 (.t 2))⟩,
    ⟨(some 38), none, (.call (.c (.fn 48 [])) [(.t 36), (.t 37)])⟩,
    ⟨(some 39), none, (.mv (.t 4))⟩,
    ⟨(some 40), none, (.nilck (.t 39))⟩,
    ⟨(some 41), none, (.faddr 0 (.t 40))⟩,
    ⟨(some 42), none, (.faddr 6 (.t 2))⟩,
    ⟨(some 43), none, (.call (.c (.fn 58 [])) [(.t 41), (.t 42)])⟩,
    ⟨(some 44), none, (.mv (.t 4))⟩,
    ⟨(some 45), none, (.nilck (.t 44))⟩,
    ⟨(some 46), none, (.faddr 0 (.t 45))⟩,
    ⟨(some 47), none, (.faddr 7 (.t 2))⟩,
    ⟨(some 48), none, (.call (.c (.fn 50 [])) [(.t 46), (.t 47)])⟩,
    ⟨(some 49), none, (.bslice [(.v .nilFunc)] 8 [(0, (1, (.t 13))), (1, (1, (.t 18))), (2, (1, (.t 23))), (3, (1, (.t 28))), (4, (1, (.t 33))), (5, (1, (.t 38))), (6, (1, (.t 43))), (7, (1, (.t 48)))])⟩,
    ⟨(some 50), none, (.nilck (.t 8))⟩,
    ⟨(some 51), none, (.faddr 1 (.t 50))⟩,
    ⟨none, none, (.store 1 (.t 51) (.t 49))⟩] true) (.seq [2, 3] (.region [⟨(some 52), none, (.mv (.t 4))⟩,
    ⟨(some 53), none, (.call (.c (.fn 51 [])) [(.t 52)])⟩] false) (.seq [2, 3] (.region [⟨(some 54), none, (.load (some 8) (.t 2))⟩,
    ⟨(some 55), none, (.call (.c (.fn 59 [])) [(.t 54)])⟩,
    ⟨(some 56), none, (.call (.c (.fn 52 [])) [(.t 55)])⟩] false) (.seq [2, 3] (.region [⟨(some 57), none, (.load (some 8) (.t 2))⟩,
    ⟨none, none, (.store 8 (.t 2) (.t 57))⟩,
    ⟨none, none, (.store 1 (.t 3) (.c (.v (.int .i64 0))))⟩] false) .ret)))))))⟩
/- standby/standbyref25.DecodeMessage -/
def s25 : SFn := 
  ⟨.plain, 1, [(.cell 2 (some 8)), (.tmp 3)], (.seq [0, 2] (.region [⟨(some 2), none, (.alloc [(.v (.int .i64 0)), (.v (.int .i64 0)), (.v (.int .i64 0)), (.v (.int .i64 0)), (.v (.int .i64 0)), (.v (.int .i64 0)), (.v (.slice none 0 0)), (.v (.slice none 0 0))])⟩,
    ⟨(some 3), none, (.mv (.c (.v (.int .i64 0))))⟩] false) (.seq [0, 2, 4] (.region [⟨(some 11), none, (.mv (.t 0))⟩,
    ⟨(some 12), none, (.call (.c (.fn 53 [])) [(.t 11)])⟩,
    ⟨(some 10), none, (.mv (.t 12))⟩,
    ⟨(some 13), none, (.extract (.t 10) 0)⟩,
    ⟨(some 14), none, (.extract (.t 10) 1)⟩,
    ⟨(some 0), none, (.mv (.t 13))⟩,
    ⟨(some 4), none, (.mv (.t 14))⟩] false) (.seq [0, 2] (.seq [0, 2, 4, 16] (.region [⟨(some 15), none, (.mv (.t 4))⟩,
    ⟨(some 16), none, (.bin .neq .none (.t 15) (.c (.v (.int .i64 0))))⟩] false) (.cond (.t 16) (.seq [2, 3] (.region [⟨(some 17), none, (.build [(.v (.int .i64 0)), (.v (.int .i64 0)), (.v (.int .i64 0)), (.v (.int .i64 0)), (.v (.int .i64 0)), (.v (.int .i64 0)), (.v (.slice none 0 0)), (.v (.slice none 0 0))] [])⟩,
    ⟨(some 18), none, (.mv (.t 4))⟩,
    ⟨none, none, (.store 8 (.t 2) (.t 17))⟩,
    ⟨(some 3), none, (.mv (.t 18))⟩] false) .ret) .skip)) (.seq [0, 2, 4, 5] (.region [⟨(some 20), none, (.mv (.t 0))⟩,
    ⟨(some 21), none, (.call (.c (.fn 54 [])) [(.t 20), (.c (.v (.int .i64 6)))])⟩,
    ⟨(some 19), none, (.mv (.t 21))⟩,
    ⟨(some 22), none, (.extract (.t 19) 0)⟩,
    ⟨(some 23), none, (.extract (.t 19) 1)⟩,
    ⟨(some 24), none, (.extract (.t 19) 2)⟩,
    ⟨(some 5), none, (.mv (.t 22))⟩,
    ⟨(some 0), none, (.mv (.t 23))⟩,
    ⟨(some 4), none, (.mv (.t 24))⟩] false) (.seq [0, 2, 5] (.seq [0, 2, 4, 5, 26] (.region [⟨(some 25), none, (.mv (.t 4))⟩,
    ⟨(some 26), none, (.bin .neq .none (.t 25) (.c (.v (.int .i64 0))))⟩] false) (.cond (.t 26) (.seq [2, 3] (.region [⟨(some 27), none, (.build [(.v (.int .i64 0)), (.v (.int .i64 0)), (.v (.int .i64 0)), (.v (.int .i64 0)), (.v (.int .i64 0)), (.v (.int .i64 0)), (.v (.slice none 0 0)), (.v (.slice none 0 0))] [])⟩,
    ⟨(some 28), none, (.mv (.t 4))⟩,
    ⟨none, none, (.store 8 (.t 2) (.t 27))⟩,
    ⟨(some 3), none, (.mv (.t 28))⟩] false) .ret) .skip)) (.seq [0, 2, 4, 5, 6] (.region [⟨(some 30), none, (.mv (.t 0))⟩,
    ⟨(some 31), none, (.call (.c (.fn 60 [])) [(.t 30)])⟩,
    ⟨(some 29), none, (.mv (.t 31))⟩,
    ⟨(some 32), none, (.extract (.t 29) 0)⟩,
    ⟨(some 33), none, (.extract (.t 29) 1)⟩,
    ⟨(some 34), none, (.extract (.t 29) 2)⟩,
    ⟨(some 6), none, (.mv (.t 32))⟩,
    ⟨(some 0), none, (.mv (.t 33))⟩,
    ⟨(some 4), none, (.mv (.t 34))⟩] false) (.seq [0, 2, 5, 6] (.seq [0, 2, 4, 5, 6, 36] (.region [⟨(some 35), none, (.mv (.t 4))⟩,
    ⟨(some 36), none, (.bin .neq .none (.t 35) (.c (.v (.int .i64 0))))⟩] false) (.cond (.t 36) (.seq [2, 3] (.region [⟨(some 37), none, (.build [(.v (.int .i64 0)), (.v (.int .i64 0)), (.v (.int .i64 0)), (.v (.int .i64 0)), (.v (.int .i64 0)), (.v (.int .i64 0)), (.v (.slice none 0 0)), (.v (.slice none 0 0))] [])⟩,
    ⟨(some 38), none, (.mv (.t 4))⟩,
    ⟨none, none, (.store 8 (.t 2) (.t 37))⟩,
    ⟨(some 3), none, (.mv (.t 38))⟩] false) .ret) .skip)) (.seq [0, 2, 4, 5, 6, 7] (.region [⟨(some 40), none, (.mv (.t 0))⟩,
    ⟨(some 41), none, (.call (.c (.fn 56 [])) [(.t 40)])⟩,
    ⟨(some 39), none, (.mv (.t 41))⟩,
    ⟨(some 42), none, (.extract (.t 39) 0)⟩,
    ⟨(some 43), none, (.extract (.t 39) 1)⟩,
    ⟨(some 44), none, (.extract (.t 39) 2)⟩,
    ⟨(some 7), none, (.mv (.t 42))⟩,
    ⟨(some 0), none, (.mv (.t 43))⟩,
    ⟨(some 4), none, (.mv (.t 44))⟩] false) (.seq [0, 2, 5, 6, 7] (.seq [0, 2, 4, 5, 6, 7, 46] (.region [⟨(some 45), none, (.mv (.t 4))⟩,
    ⟨(some 46), none, (.bin .neq .none (.t 45) (.c (.v (.int .i64 0))))⟩] false) (.cond (.t 46) (.seq [2, 3] (.region [⟨(some 47), none, (.build [(.v (.int .i64 0)), (.v (.int .i64 0)), (.v (.int .i64 0)), (.v (.int .i64 0)), (.v (.int .i64 0)), (.v (.int .i64 0)), (.v (.slice none 0 0)), (.v (.slice none 0 0))] [])⟩,
    ⟨(some 48), none, (.mv (.t 4))⟩,
    ⟨none, none, (.store 8 (.t 2) (.t 47))⟩,
    ⟨(some 3), none, (.mv (.t 48))⟩] false) .ret) .skip)) (.seq [2, 5, 6, 7] (.seq [2, 5, 6, 7, 51] (.region [⟨(some 49), none, (.mv (.t 0))⟩,
    ⟨(some 50), none, (.len (.t 49))⟩,
    ⟨(some 51), none, (.bin .gtr .none (.t 50) (.c (.v (.int .i64 0))))⟩] false) (.cond (.t 51) (.seq [2, 3] (.region [⟨(some 52), none, (.build [(.v (.int .i64 0)), (.v (.int .i64 0)), (.v (.int .i64 0)), (.v (.int .i64 0)), (.v (.int .i64 0)), (.v (.int .i64 0)), (.v (.slice none 0 0)), (.v (.slice none 0 0))] [])⟩,
    ⟨none, none, (.store 8 (.t 2) (.t 52))⟩,
    ⟨(some 3), none, (.mv (.c (.v (.int .i64 3))))⟩] false) .ret) .skip)) (.seq [2, 8] (.region [⟨(some 53), none, (.mv (.t 5))⟩,
    ⟨(some 54), none, (.iaddr 1 none (.t 53) (.c (.v (.int .i64 0))))⟩,
    ⟨(some 55), none, (.load none (.t 54))⟩,
    ⟨(some 56), none, (.mv (.t 5))⟩,
    ⟨(some 57), none, (.iaddr 1 none (.t 56) (.c (.v (.int .i64 1))))⟩,
    ⟨(some 58), none, (.load none (.t 57))⟩,
    ⟨(some 59), none, (.mv (.t 5))⟩,
    ⟨(some 60), none, (.iaddr 1 none (.t 59) (.c (.v (.int .i64 2))))⟩,
    ⟨(some 61), none, (.load none (.t 60))⟩,
    ⟨(some 62), none, (.mv (.t 5))⟩,
    ⟨(some 63), none, (.iaddr 1 none (.t 62) (.c (.v (.int .i64 3))))⟩,
    ⟨(some 64), none, (.load none (.t 63))⟩,
    ⟨(some 65), none, (.mv (.t 5))⟩,
    ⟨(some 66), none, (.iaddr 1 none (.t 65) (.c (.v (.int .i64 4))))⟩,
    ⟨(some 67), none, (.load none (.t 66))⟩,
    ⟨(some 68), none, (.mv (.t 5))⟩,
    ⟨(some 69), none, (.iaddr 1 none (.t 68) (.c (.v (.int .i64 5))))⟩,
    ⟨(some 70), none, (.load none (.t 69))⟩,
    ⟨(some 71), none, (.mv (.t 6))⟩,
    ⟨(some 72), none, (.mv (.t 7))⟩,
    ⟨(some 73), none, (.build [(.v (.int .i64 0)), (.v (.int .i64 0)), (.v (.int .i64 0)), (.v (.int .i64 0)), (.v (.int .i64 0)), (.v (.int .i64 0)), (.v (.slice none 0 0)), (.v (.slice none 0 0))] [(0, (1, (.t 55))), (1, (1, (.t 58))), (2, (1, (.t 61))), (3, (1, (.t 64))), (4, (1, (.t 67))), (5, (1, (.t 70))), (6, (1, (.t 71))), (7, (1, (.t 72)))])⟩,
    ⟨(some 8), none, (.alloc [(.v (.int .i64 0)), (.v (.int .i64 0)), (.v (.int .i64 0)), (.v (.int .i64 0)), (.v (.int .i64 0)), (.v (.int .i64 0)), (.v (.slice none 0 0)), (.v (.slice none 0 0))])⟩,
    ⟨none, none, (.store 8 (.t 8) (.t 73))⟩] true) (.seq [2, 8] (.seq [2, 8, 9] (.region [⟨(some 74), none, (.load (some 8) (.t 8))⟩,
    ⟨(some 75), none, (.call (.c (.fn 61 [])) [(.t 74)])⟩,
    ⟨(some 9), none, (.mv (.t 75))⟩] false) (.seq [2, 8, 9, 77] (.region [⟨(some 76), none, (.mv (.t 9))⟩,
    ⟨(some 77), none, (.bin .neq .none (.t 76) (.c (.v (.int .i64 0))))⟩] false) (.cond (.t 77) (.seq [2, 3] (.region [⟨(some 78), none, (.build [(.v (.int .i64 0)), (.v (.int .i64 0)), (.v (.int .i64 0)), (.v (.int .i64 0)), (.v (.int .i64 0)), (.v (.int .i64 0)), (.v (.slice none 0 0)), (.v (.slice none 0 0))] [])⟩,
    ⟨(some 79), none, (.mv (.t 9))⟩,
    ⟨none, none, (.store 8 (.t 2) (.t 78))⟩,
    ⟨(some 3), none, (.mv (.t 79))⟩] false) .ret) .skip))) (.seq [2, 3] (.region [⟨(some 80), none, (.load (some 8) (.t 8))⟩,
    ⟨none, none, (.store 8 (.t 2) (.t 80))⟩,
    ⟨(some 3), none, (.mv (.c (.v (.int .i64 0))))⟩] false) .ret)))))))))))))⟩
/- standby/standbyref25.Same -/
def s26 : SFn := 
  ⟨.plain, 2, [(.tmp 4)], (.seq [2, 3] (.region [⟨(some 2), none, (.box (.t 0))⟩,
    ⟨(some 3), none, (.box (.t 1))⟩,
    ⟨(some 4), none, (.mv (.c (.v (.bool false))))⟩] false) (.seq [4] (.region [⟨(some 5), none, (.faddr 0 (.t 2))⟩,
    ⟨(some 6), none, (.load none (.t 5))⟩,
    ⟨(some 7), none, (.faddr 0 (.t 3))⟩,
    ⟨(some 8), none, (.load none (.t 7))⟩,
    ⟨(some 9), none, (.bin .eql .none (.t 6) (.t 8))⟩,
    ⟨(some 10), none, (.mv (.t 9))⟩,
    ⟨(some 11), (some (10, true)), (.faddr 1 (.t 2))⟩,
    ⟨(some 12), (some (10, true)), (.load none (.t 11))⟩,
    ⟨(some 13), (some (10, true)), (.faddr 1 (.t 3))⟩,
    ⟨(some 14), (some (10, true)), (.load none (.t 13))⟩,
    ⟨(some 15), (some (10, true)), (.bin .eql .none (.t 12) (.t 14))⟩,
    ⟨(some 16), none, (.pick (.t 10) (.t 15) (.c (.v (.bool false))))⟩,
    ⟨(some 17), none, (.mv (.t 16))⟩,
    ⟨(some 18), (some (17, true)), (.faddr 2 (.t 2))⟩,
    ⟨(some 19), (some (17, true)), (.load none (.t 18))⟩,
    ⟨(some 20), (some (17, true)), (.faddr 2 (.t 3))⟩,
    ⟨(some 21), (some (17, true)), (.load none (.t 20))⟩,
    ⟨(some 22), (some (17, true)), (.bin .eql .none (.t 19) (.t 21))⟩,
    ⟨(some 23), none, (.pick (.t 17) (.t 22) (.c (.v (.bool false))))⟩,
    ⟨(some 24), none, (.mv (.t 23))⟩,
    ⟨(some 25), (some (24, true)), (.faddr 3 (.t 2))⟩,
    ⟨(some 26), (some (24, true)), (.load none (.t 25))⟩,
    ⟨(some 27), (some (24, true)), (.faddr 3 (.t 3))⟩,
    ⟨(some 28), (some (24, true)), (.load none (.t 27))⟩,
    ⟨(some 29), (some (24, true)), (.bin .eql .none (.t 26) (.t 28))⟩,
    ⟨(some 30), none, (.pick (.t 24) (.t 29) (.c (.v (.bool false))))⟩,
    ⟨(some 31), none, (.mv (.t 30))⟩,
    ⟨(some 32), (some (31, true)), (.faddr 4 (.t 2))⟩,
    ⟨(some 33), (some (31, true)), (.load none (.t 32))⟩,
    ⟨(some 34), (some (31, true)), (.faddr 4 (.t 3))⟩,
    ⟨(some 35), (some (31, true)), (.load none (.t 34))⟩,
    ⟨(some 36), (some (31, true)), (.bin .eql .none (.t 33) (.t 35))⟩,
    ⟨(some 37), none, (.pick (.t 31) (.t 36) (.c (.v (.bool false))))⟩,
    ⟨(some 38), none, (.mv (.t 37))⟩,
    ⟨(some 39), (some (38, true)), (.faddr 5 (.t 2))⟩,
    ⟨(some 40), (some (38, true)), (.load none (.t 39))⟩,
    ⟨(some 41), (some (38, true)), (.faddr 5 (.t 3))⟩,
    ⟨(some 42), (some (38, true)), (.load none (.t 41))⟩,
    ⟨(some 43), (some (38, true)), (.call (.c (.fn 62 [])) [(.t 40), (.t 42)])⟩,
    ⟨(some 44), none, (.pick (.t 38) (.t 43) (.c (.v (.bool false))))⟩,
    ⟨(some 45), none, (.mv (.t 44))⟩,
    ⟨(some 46), (some (45, true)), (.faddr 6 (.t 2))⟩,
    ⟨(some 47), (some (45, true)), (.load none (.t 46))⟩,
    ⟨(some 48), (some (45, true)), (.faddr 6 (.t 3))⟩,
    ⟨(some 49), (some (45, true)), (.load none (.t 48))⟩,
    ⟨(some 50), (some (45, true)), (.call (.c (.fn 63 [])) [(.t 47), (.t 49)])⟩,
    ⟨(some 51), none, (.pick (.t 45) (.t 50) (.c (.v (.bool false))))⟩,
    ⟨(some 4), none, (.mv (.t 51))⟩] false) .ret))⟩
/- standby/standbyref25.SameMessage -/
def s27b0 : SCode := 
  (.seq [2, 3, 5] (.seq [2, 3, 5, 17] (.region [⟨(some 13), none, (.mv (.t 5))⟩,
    ⟨(some 14), none, (.faddr 6 (.t 2))⟩,
    ⟨(some 15), none, (.load none (.t 14))⟩,
    ⟨(some 16), none, (.len (.t 15))⟩,
    ⟨(some 17), none, (.bin .lss .none (.t 13) (.t 16))⟩] false) (.cond (.t 17) .skip (.exit 0))) (.seq [2, 3, 5] (.block 1 (.seq [2, 3, 5, 30] (.region [⟨(some 20), none, (.faddr 6 (.t 2))⟩,
    ⟨(some 21), none, (.load none (.t 20))⟩,
    ⟨(some 22), none, (.mv (.t 5))⟩,
    ⟨(some 23), none, (.iaddr 1 none (.t 21) (.t 22))⟩,
    ⟨(some 24), none, (.load none (.t 23))⟩,
    ⟨(some 25), none, (.faddr 6 (.t 3))⟩,
    ⟨(some 26), none, (.load none (.t 25))⟩,
    ⟨(some 27), none, (.mv (.t 5))⟩,
    ⟨(some 28), none, (.iaddr 1 none (.t 26) (.t 27))⟩,
    ⟨(some 29), none, (.load none (.t 28))⟩,
    ⟨(some 30), none, (.bin .neq .none (.t 24) (.t 29))⟩] true) (.cond (.t 30) (.seq [4] (.region [⟨(some 4), none, (.mv (.c (.v (.bool false))))⟩] false) .ret) .skip))) (.region [⟨(some 18), none, (.mv (.t 5))⟩,
    ⟨(some 19), none, (.bin .add .none (.t 18) (.c (.v (.int .i64 1))))⟩,
    ⟨(some 5), none, (.mv (.t 19))⟩] false)))
def s27 : SFn := 
  ⟨.plain, 2, [(.tmp 4)], (.seq [2, 3] (.region [⟨(some 2), none, (.box (.t 0))⟩,
    ⟨(some 3), none, (.box (.t 1))⟩,
    ⟨(some 4), none, (.mv (.c (.v (.bool false))))⟩] false) (.seq [2, 3] (.seq [2, 3, 12] (.region [⟨(some 6), none, (.faddr 6 (.t 2))⟩,
    ⟨(some 7), none, (.load none (.t 6))⟩,
    ⟨(some 8), none, (.len (.t 7))⟩,
    ⟨(some 9), none, (.faddr 6 (.t 3))⟩,
    ⟨(some 10), none, (.load none (.t 9))⟩,
    ⟨(some 11), none, (.len (.t 10))⟩,
    ⟨(some 12), none, (.bin .neq .none (.t 8) (.t 11))⟩] false) (.cond (.t 12) (.seq [4] (.region [⟨(some 4), none, (.mv (.c (.v (.bool false))))⟩] false) .ret) .skip)) (.seq [2, 3] (.seq [2, 3, 5] (.region [⟨(some 5), none, (.mv (.c (.v (.int .i64 0))))⟩] false) (.block 0 (.loop [2, 3, 5] s27b0))) (.seq [4] (.region [⟨(some 31), none, (.faddr 0 (.t 2))⟩,
    ⟨(some 32), none, (.load none (.t 31))⟩,
    ⟨(some 33), none, (.faddr 0 (.t 3))⟩,
    ⟨(some 34), none, (.load none (.t 33))⟩,
    ⟨(some 35), none, (.bin .eql .none (.t 32) (.t 34))⟩,
    ⟨(some 36), none, (.mv (.t 35))⟩,
    ⟨(some 37), (some (36, true)), (.faddr 1 (.t 2))⟩,
    ⟨(some 38), (some (36, true)), (.load none (.t 37))⟩,
    ⟨(some 39), (some (36, true)), (.faddr 1 (.t 3))⟩,
    ⟨(some 40), (some (36, true)), (.load none (.t 39))⟩,
    ⟨(some 41), (some (36, true)), (.bin .eql .none (.t 38) (.t 40))⟩,
    ⟨(some 42), none, (.pick (.t 36) (.t 41) (.c (.v (.bool false))))⟩,
    ⟨(some 43), none, (.mv (.t 42))⟩,
    ⟨(some 44), (some (43, true)), (.faddr 2 (.t 2))⟩,
    ⟨(some 45), (some (43, true)), (.load none (.t 44))⟩,
    ⟨(some 46), (some (43, true)), (.faddr 2 (.t 3))⟩,
    ⟨(some 47), (some (43, true)), (.load none (.t 46))⟩,
    ⟨(some 48), (some (43, true)), (.bin .eql .none (.t 45) (.t 47))⟩,
    ⟨(some 49), none, (.pick (.t 43) (.t 48) (.c (.v (.bool false))))⟩,
    ⟨(some 50), none, (.mv (.t 49))⟩,
    ⟨(some 51), (some (50, true)), (.faddr 3 (.t 2))⟩,
    ⟨(some 52), (some (50, true)), (.load none (.t 51))⟩,
    ⟨(some 53), (some (50, true)), (.faddr 3 (.t 3))⟩,
    ⟨(some 54), (some (50, true)), (.load none (.t 53))⟩,
    ⟨(some 55), (some (50, true)), (.bin .eql .none (.t 52) (.t 54))⟩,
    ⟨(some 56), none, (.pick (.t 50) (.t 55) (.c (.v (.bool false))))⟩,
    ⟨(some 57), none, (.mv (.t 56))⟩,
    ⟨(some 58), (some (57, true)), (.faddr 4 (.t 2))⟩,
    ⟨(some 59), (some (57, true)), (.load none (.t 58))⟩,
    ⟨(some 60), (some (57, true)), (.faddr 4 (.t 3))⟩,
    ⟨(some 61), (some (57, true)), (.load none (.t 60))⟩,
    ⟨(some 62), (some (57, true)), (.bin .eql .none (.t 59) (.t 61))⟩,
    ⟨(some 63), none, (.pick (.t 57) (.t 62) (.c (.v (.bool false))))⟩,
    ⟨(some 64), none, (.mv (.t 63))⟩,
    ⟨(some 65), (some (64, true)), (.faddr 5 (.t 2))⟩,
    ⟨(some 66), (some (64, true)), (.load none (.t 65))⟩,
    ⟨(some 67), (some (64, true)), (.faddr 5 (.t 3))⟩,
    ⟨(some 68), (some (64, true)), (.load none (.t 67))⟩,
    ⟨(some 69), (some (64, true)), (.bin .eql .none (.t 66) (.t 68))⟩,
    ⟨(some 70), none, (.pick (.t 64) (.t 69) (.c (.v (.bool false))))⟩,
    ⟨(some 71), none, (.mv (.t 70))⟩,
    ⟨(some 72), (some (71, true)), (.faddr 7 (.t 2))⟩,
    ⟨(some 73), (some (71, true)), (.load none (.t 72))⟩,
    ⟨(some 74), (some (71, true)), (.faddr 7 (.t 3))⟩,
    ⟨(some 75), (some (71, true)), (.load none (.t 74))⟩,
    ⟨(some 76), (some (71, true)), (.call (.c (.fn 63 [])) [(.t 73), (.t 75)])⟩,
    ⟨(some 77), none, (.pick (.t 71) (.t 76) (.c (.v (.bool false))))⟩,
    ⟨(some 4), none, (.mv (.t 77))⟩] false) .ret))))⟩
/- standby/standbylaw25.fewMessage -/
def s28 : SFn := 
  ⟨.plain, 1, [(.tmp 2)], (.seq [1] (.region [⟨(some 1), none, (.box (.t 0))⟩,
    ⟨(some 2), none, (.mv (.c (.v (.bool false))))⟩] false) (.seq [2] (.region [⟨(some 3), none, (.faddr 6 (.t 1))⟩,
    ⟨(some 4), none, (.load none (.t 3))⟩,
    ⟨(some 5), none, (.len (.t 4))⟩,
    ⟨(some 6), none, (.bin .leq .none (.t 5) (.c (.v (.int .i64 5000))))⟩,
    ⟨(some 7), none, (.mv (.t 6))⟩,
    ⟨(some 8), (some (7, true)), (.faddr 7 (.t 1))⟩,
    ⟨(some 9), (some (7, true)), (.load none (.t 8))⟩,
    ⟨(some 10), (some (7, true)), (.len (.t 9))⟩,
    ⟨(some 11), (some (7, true)), (.bin .leq .none (.t 10) (.c (.v (.int .i64 70000))))⟩,
    ⟨(some 12), none, (.pick (.t 7) (.t 11) (.c (.v (.bool false))))⟩,
    ⟨(some 2), none, (.mv (.t 12))⟩] false) .ret))⟩
/- standby/packet.EncodeMessage -/
def s29b0 : SCode := 
  (.seq [1, 5, 25, 26, 27, 28] (.region [⟨(some 28), none, (.bin .lss .none (.t 27) (.t 26))⟩] false) (.seq [1, 5, 25, 26, 27] (.cond (.t 28) .skip (.exit 0)) (.seq [1, 5, 25, 26, 27] (.block 1 (.seq [1, 5, 7, 25, 26, 27] (.region [⟨(some 29), none, (.iaddr 1 none (.t 25) (.t 27))⟩,
    ⟨(some 30), none, (.load none (.t 29))⟩,
    ⟨(some 7), none, (.mv (.t 30))⟩] false) (.region [⟨(some 31), none, (.mv (.t 5))⟩,
    ⟨(some 32), none, (.mv (.t 7))⟩,
    ⟨(some 33), none, (.call (.c (.fn 38 [])) [(.t 31), (.t 32)])⟩,
    ⟨(some 5), none, (.mv (.t 33))⟩] false))) (.region [⟨(some 34), none, (.bin .add .none (.t 27) (.c (.v (.int .i64 1))))⟩,
    ⟨(some 27), none, (.mv (.t 34))⟩] false))))
def s29 : SFn := 
  ⟨.plain, 1, [(.tmp 2), (.tmp 3)], (.seq [1] (.region [⟨(some 1), none, (.box (.t 0))⟩,
    ⟨(some 2), none, (.mv (.c (.v (.slice none 0 0))))⟩,
    ⟨(some 3), none, (.mv (.c (.v (.int .i64 0))))⟩] false) (.seq [1] (.seq [1, 4] (.region [⟨(some 8), none, (.load (some 8) (.t 1))⟩,
    ⟨(some 9), none, (.call (.c (.fn 59 [])) [(.t 8)])⟩,
    ⟨(some 4), none, (.mv (.t 9))⟩] false) (.seq [1, 4, 11] (.region [⟨(some 10), none, (.mv (.t 4))⟩,
    ⟨(some 11), none, (.bin .neq .none (.t 10) (.c (.v (.int .i64 0))))⟩] false) (.cond (.t 11) (.seq [2, 3] (.region [⟨(some 12), none, (.mv (.t 4))⟩,
    ⟨(some 2), none, (.mv (.c (.v (.slice none 0 0))))⟩,
    ⟨(some 3), none, (.mv (.t 12))⟩] false) .ret) .skip))) (.seq [1, 5] (.region [⟨(some 5), none, (.mv (.c (.v (.slice none 0 0))))⟩] false) (.seq [1, 5] (.seq [1, 5, 25, 26, 27] (.region [⟨(some 13), none, (.faddr 0 (.t 1))⟩,
    ⟨(some 14), none, (.load none (.t 13))⟩,
    ⟨(some 15), none, (.faddr 1 (.t 1))⟩,
    ⟨(some 16), none, (.load none (.t 15))⟩,
    ⟨(some 17), none, (.faddr 2 (.t 1))⟩,
    ⟨(some 18), none, (.load none (.t 17))⟩,
    ⟨(some 19), none, (.faddr 3 (.t 1))⟩,
    ⟨(some 20), none, (.load none (.t 19))⟩,
    ⟨(some 21), none, (.faddr 4 (.t 1))⟩,
    ⟨(some 22), none, (.load none (.t 21))⟩,
    ⟨(some 23), none, (.faddr 5 (.t 1))⟩,
    ⟨(some 24), none, (.load none (.t 23))⟩,
    ⟨(some 25), none, (.bslice [(.v (.int .i64 0))] 6 [(0, (1, (.t 14))), (1, (1, (.t 16))), (2, (1, (.t 18))), (3, (1, (.t 20))), (4, (1, (.t 22))), (5, (1, (.t 24)))])⟩,
    ⟨(some 26), none, (.len (.t 25))⟩,
    ⟨(some 27), none, (.mv (.c (.v (.int .i64 0))))⟩] false) (.block 0 (.loop [1, 5, 25, 26, 27] s29b0))) (.seq [5] (.region [⟨(some 35), none, (.mv (.t 5))⟩,
    ⟨(some 36), none, (.faddr 6 (.t 1))⟩,
    ⟨(some 37), none, (.load none (.t 36))⟩,
    ⟨(some 38), none, (.call (.c (.fn 64 [])) [(.t 35), (.t 37)])⟩,
    ⟨(some 39), none, (.faddr 7 (.t 1))⟩,
    ⟨(some 40), none, (.load none (.t 39))⟩,
    ⟨(some 41), none, (.call (.c (.fn 40 [])) [(.t 38), (.t 40)])⟩,
    ⟨(some 42), none, (.call (.c (.fn 39 [])) [(.t 41)])⟩,
    ⟨(some 5), none, (.mv (.t 42))⟩] true) (.seq [5] (.seq [5, 45] (.region [⟨(some 43), none, (.mv (.t 5))⟩,
    ⟨(some 44), none, (.len (.t 43))⟩,
    ⟨(some 45), none, (.bin .gtr .none (.t 44) (.c (.v (.int .i64 65536))))⟩] false) (.cond (.t 45) (.seq [2, 3] (.region [⟨(some 2), none, (.mv (.c (.v (.slice none 0 0))))⟩,
    ⟨(some 3), none, (.mv (.c (.v (.int .i64 5))))⟩] false) .ret) .skip)) (.seq [2, 3] (.region [⟨(some 46), none, (.mv (.t 5))⟩,
    ⟨(some 2), none, (.mv (.t 46))⟩,
    ⟨(some 3), none, (.mv (.c (.v (.int .i64 0))))⟩] false) .ret)))))))⟩
/- standby/standbyref25.EncodeMessage -/
def s30 : SFn := 
  ⟨.plain, 1, [(.tmp 2), (.tmp 3)], (.seq [1] (.region [⟨(some 1), none, (.box (.t 0))⟩,
    ⟨(some 2), none, (.mv (.c (.v (.slice none 0 0))))⟩,
    ⟨(some 3), none, (.mv (.c (.v (.int .i64 0))))⟩] false) (.seq [1] (.seq [1, 4] (.region [⟨(some 6), none, (.load (some 8) (.t 1))⟩,
    ⟨(some 7), none, (.call (.c (.fn 61 [])) [(.t 6)])⟩,
    ⟨(some 4), none, (.mv (.t 7))⟩] false) (.seq [1, 4, 9] (.region [⟨(some 8), none, (.mv (.t 4))⟩,
    ⟨(some 9), none, (.bin .neq .none (.t 8) (.c (.v (.int .i64 0))))⟩] false) (.cond (.t 9) (.seq [2, 3] (.region [⟨(some 10), none, (.mv (.t 4))⟩,
    ⟨(some 2), none, (.mv (.c (.v (.slice none 0 0))))⟩,
    ⟨(some 3), none, (.mv (.t 10))⟩] false) .ret) .skip))) (.seq [1, 5] (.region [⟨(some 11), none, (.faddr 0 (.t 1))⟩,
    ⟨(some 12), none, (.load none (.t 11))⟩,
    ⟨(some 13), none, (.call (.c (.fn 42 [])) [(.c (.v (.slice none 0 0))), (.t 12)])⟩,
    ⟨(some 5), none, (.mv (.t 13))⟩] false) (.seq [1, 5] (.region [⟨(some 14), none, (.mv (.t 5))⟩,
    ⟨(some 15), none, (.faddr 1 (.t 1))⟩,
    ⟨(some 16), none, (.load none (.t 15))⟩,
    ⟨(some 17), none, (.call (.c (.fn 42 [])) [(.t 14), (.t 16)])⟩,
    ⟨(some 5), none, (.mv (.t 17))⟩] false) (.seq [1, 5] (.region [⟨(some 18), none, (.mv (.t 5))⟩,
    ⟨(some 19), none, (.faddr 2 (.t 1))⟩,
    ⟨(some 20), none, (.load none (.t 19))⟩,
    ⟨(some 21), none, (.call (.c (.fn 42 [])) [(.t 18), (.t 20)])⟩,
    ⟨(some 5), none, (.mv (.t 21))⟩] false) (.seq [1, 5] (.region [⟨(some 22), none, (.mv (.t 5))⟩,
    ⟨(some 23), none, (.faddr 3 (.t 1))⟩,
    ⟨(some 24), none, (.load none (.t 23))⟩,
    ⟨(some 25), none, (.call (.c (.fn 42 [])) [(.t 22), (.t 24)])⟩,
    ⟨(some 5), none, (.mv (.t 25))⟩] false) (.seq [1, 5] (.region [⟨(some 26), none, (.mv (.t 5))⟩,
    ⟨(some 27), none, (.faddr 4 (.t 1))⟩,
    ⟨(some 28), none, (.load none (.t 27))⟩,
    ⟨(some 29), none, (.call (.c (.fn 42 [])) [(.t 26), (.t 28)])⟩,
    ⟨(some 5), none, (.mv (.t 29))⟩] false) (.seq [1, 5] (.region [⟨(some 30), none, (.mv (.t 5))⟩,
    ⟨(some 31), none, (.faddr 5 (.t 1))⟩,
    ⟨(some 32), none, (.load none (.t 31))⟩,
    ⟨(some 33), none, (.call (.c (.fn 42 [])) [(.t 30), (.t 32)])⟩,
    ⟨(some 5), none, (.mv (.t 33))⟩] false) (.seq [1, 5] (.region [⟨(some 34), none, (.mv (.t 5))⟩,
    ⟨(some 35), none, (.faddr 6 (.t 1))⟩,
    ⟨(some 36), none, (.load none (.t 35))⟩,
    ⟨(some 37), none, (.call (.c (.fn 65 [])) [(.t 34), (.t 36)])⟩,
    ⟨(some 5), none, (.mv (.t 37))⟩] false) (.seq [5] (.region [⟨(some 38), none, (.mv (.t 5))⟩,
    ⟨(some 39), none, (.faddr 7 (.t 1))⟩,
    ⟨(some 40), none, (.load none (.t 39))⟩,
    ⟨(some 41), none, (.call (.c (.fn 44 [])) [(.t 38), (.t 40)])⟩,
    ⟨(some 42), none, (.call (.c (.fn 21 [])) [(.t 41)])⟩,
    ⟨(some 5), none, (.mv (.t 42))⟩] false) (.seq [5] (.seq [5, 45] (.region [⟨(some 43), none, (.mv (.t 5))⟩,
    ⟨(some 44), none, (.len (.t 43))⟩,
    ⟨(some 45), none, (.bin .gtr .none (.t 44) (.c (.v (.int .i64 65536))))⟩] false) (.cond (.t 45) (.seq [2, 3] (.region [⟨(some 2), none, (.mv (.c (.v (.slice none 0 0))))⟩,
    ⟨(some 3), none, (.mv (.c (.v (.int .i64 5))))⟩] false) .ret) .skip)) (.seq [2, 3] (.region [⟨(some 46), none, (.mv (.t 5))⟩,
    ⟨(some 2), none, (.mv (.t 46))⟩,
    ⟨(some 3), none, (.mv (.c (.v (.int .i64 0))))⟩] false) .ret))))))))))))⟩
/- slices.Clone[[]byte,byte] -/
def s31 : SFn := 
  ⟨.keep, 1, [(.tmp 2)], (.seq [0] (.region [⟨(some 2), none, (.mv (.c (.v (.slice none 0 0))))⟩] false) (.seq [0] (.seq [0, 4] (.region [⟨(some 3), none, (.mv (.t 0))⟩,
    ⟨(some 4), none, (.bin .eql .nilS (.t 3) (.c (.v (.slice none 0 0))))⟩] false) (.cond (.t 4) (.seq [2] (.region [⟨(some 2), none, (.mv (.c (.v (.slice none 0 0))))⟩] false) .ret) .skip)) (.seq [2] (.region [⟨(some 5), none, (.bslice [(.v (.int .u8 0))] 0 [])⟩,
    ⟨(some 6), none, (.mv (.t 0))⟩,
    ⟨(some 7), none, (.append 1 1 (.t 5) (.t 6))⟩,
    ⟨(some 2), none, (.mv (.t 7))⟩] false) .ret)))⟩
/- standby/standbylaw25.PacketGaps$1 -/
def s32b0 : SCode := 
  (.seq [1, 5, 8, 9, 10, 11] (.region [⟨(some 11), none, (.bin .lss .none (.t 10) (.t 9))⟩] false) (.seq [1, 5, 8, 9, 10] (.cond (.t 11) .skip (.exit 0)) (.seq [1, 5, 8, 9, 10] (.block 1 (.seq [1, 5, 7, 8, 9, 10] (.region [⟨(some 12), none, (.iaddr 2 none (.t 8) (.t 10))⟩,
    ⟨(some 13), none, (.load (some 2) (.t 12))⟩,
    ⟨(some 7), none, (.alloc [(.v (.int .i64 0)), (.v (.int .i64 0))])⟩,
    ⟨none, none, (.store 2 (.t 7) (.t 13))⟩] false) (.seq [1, 5, 8, 9, 10, 26] (.region [⟨(some 14), none, (.mv (.t 1))⟩,
    ⟨(some 15), none, (.faddr 0 (.t 7))⟩,
    ⟨(some 16), none, (.load none (.t 15))⟩,
    ⟨(some 17), none, (.bin .geq .none (.t 14) (.t 16))⟩,
    ⟨(some 18), none, (.mv (.t 17))⟩,
    ⟨(some 19), (some (18, true)), (.mv (.t 1))⟩,
    ⟨(some 20), (some (18, true)), (.faddr 0 (.t 7))⟩,
    ⟨(some 21), (some (18, true)), (.load none (.t 20))⟩,
    ⟨(some 22), (some (18, true)), (.bin .sub .none (.t 19) (.t 21))⟩,
    ⟨(some 23), (some (18, true)), (.faddr 1 (.t 7))⟩,
    ⟨(some 24), (some (18, true)), (.load none (.t 23))⟩,
    ⟨(some 25), (some (18, true)), (.bin .lss .none (.t 22) (.t 24))⟩,
    ⟨(some 26), none, (.pick (.t 18) (.t 25) (.c (.v (.bool false))))⟩] false) (.cond (.t 26) (.region [⟨(some 27), none, (.mv (.t 5))⟩,
    ⟨(some 28), none, (.bin .add .none (.t 27) (.c (.v (.int .i64 1))))⟩,
    ⟨(some 5), none, (.mv (.t 28))⟩] false) .skip)))) (.region [⟨(some 29), none, (.bin .add .none (.t 10) (.c (.v (.int .i64 1))))⟩,
    ⟨(some 10), none, (.mv (.t 29))⟩] false))))
def s32 : SFn := 
  ⟨.plain, 2, [(.tmp 4)], (.seq [0, 1] (.region [⟨(some 4), none, (.mv (.c (.v (.int .i64 0))))⟩] false) (.seq [0, 1, 5] (.region [⟨(some 5), none, (.mv (.c (.v (.int .i64 0))))⟩] false) (.seq [5] (.seq [1, 5, 8, 9, 10] (.region [⟨(some 8), none, (.mv (.t 0))⟩,
    ⟨(some 9), none, (.len (.t 8))⟩,
    ⟨(some 10), none, (.mv (.c (.v (.int .i64 0))))⟩] false) (.block 0 (.loop [1, 5, 8, 9, 10] s32b0))) (.seq [4] (.region [⟨(some 30), none, (.mv (.t 5))⟩,
    ⟨(some 4), none, (.mv (.t 30))⟩] false) .ret))))⟩
/- standby/standbyref04.Sum -/
def s33 : SFn := 
  ⟨.plain, 1, [(.tmp 2)], (.seq [0] (.region [⟨(some 2), none, (.mv (.c (.v (.int .u32 0))))⟩] false) (.seq [2] (.region [⟨(some 3), none, (.mv (.t 0))⟩,
    ⟨(some 4), none, (.call (.c (.fn 66 [])) [(.c (.v (.int .u32 0))), (.t 3)])⟩,
    ⟨(some 2), none, (.mv (.t 4))⟩] false) .ret))⟩
/- standby/packet.time -/
def s34 : SFn := 
  ⟨.plain, 1, [(.tmp 2)], (.seq [0] (.region [⟨(some 2), none, (.mv (.c (.v (.bool false))))⟩] false) (.seq [2] (.region [⟨(some 3), none, (.mv (.t 0))⟩,
    ⟨(some 4), none, (.bin .geq .none (.t 3) (.c (.v (.int .i64 0))))⟩,
    ⟨(some 5), none, (.mv (.t 4))⟩,
    ⟨(some 6), (some (5, true)), (.mv (.t 0))⟩,
    ⟨(some 7), (some (5, true)), (.bin .leq .none (.t 6) (.c (.v (.int .i64 1073741824))))⟩,
    ⟨(some 8), none, (.pick (.t 5) (.t 7) (.c (.v (.bool false))))⟩,
    ⟨(some 2), none, (.mv (.t 8))⟩] false) .ret))⟩
/- standby/packet.selective -/
def s35b0 : SCode := 
  (.seq [0, 5, 9, 10, 11, 12] (.region [⟨(some 12), none, (.bin .lss .none (.t 11) (.t 10))⟩] false) (.seq [0, 5, 9, 10, 11] (.cond (.t 12) .skip (.exit 0)) (.seq [0, 5, 9, 10, 11] (.block 1 (.seq [0, 5, 7, 9, 10, 11] (.region [⟨(some 13), none, (.iaddr 2 none (.t 9) (.t 11))⟩,
    ⟨(some 14), none, (.load (some 2) (.t 13))⟩,
    ⟨(some 7), none, (.alloc [(.v (.int .i64 0)), (.v (.int .i64 0))])⟩,
    ⟨none, none, (.store 2 (.t 7) (.t 14))⟩] false) (.seq [0, 7, 9, 10, 11] (.seq [0, 7, 9, 10, 11, 40] (.region [⟨(some 15), none, (.faddr 0 (.t 7))⟩,
    ⟨(some 16), none, (.load none (.t 15))⟩,
    ⟨(some 17), none, (.mv (.t 5))⟩,
    ⟨(some 18), none, (.bin .leq .none (.t 16) (.t 17))⟩,
    ⟨(some 19), none, (.mv (.t 18))⟩,
    ⟨(some 20), (some (19, false)), (.faddr 1 (.t 7))⟩,
    ⟨(some 21), (some (19, false)), (.load none (.t 20))⟩,
    ⟨(some 22), (some (19, false)), (.bin .lss .none (.t 21) (.c (.v (.int .i64 1))))⟩,
    ⟨(some 23), none, (.pick (.t 19) (.c (.v (.bool true))) (.t 22))⟩,
    ⟨(some 24), none, (.mv (.t 23))⟩,
    ⟨(some 25), (some (24, false)), (.faddr 0 (.t 7))⟩,
    ⟨(some 26), (some (24, false)), (.load none (.t 25))⟩,
    ⟨(some 27), (some (24, false)), (.mv (.t 0))⟩,
    ⟨(some 28), (some (24, false)), (.bin .add .none (.t 27) (.c (.v (.int .i64 64))))⟩,
    ⟨(some 29), (some (24, false)), (.bin .gtr .none (.t 26) (.t 28))⟩,
    ⟨(some 30), none, (.pick (.t 24) (.c (.v (.bool true))) (.t 29))⟩,
    ⟨(some 31), none, (.mv (.t 30))⟩,
    ⟨(some 32), (some (31, false)), (.faddr 1 (.t 7))⟩,
    ⟨(some 33), (some (31, false)), (.load none (.t 32))⟩,
    ⟨(some 34), (some (31, false)), (.mv (.t 0))⟩,
    ⟨(some 35), (some (31, false)), (.bin .add .none (.t 34) (.c (.v (.int .i64 64))))⟩,
    ⟨(some 36), (some (31, false)), (.faddr 0 (.t 7))⟩,
    ⟨(some 37), (some (31, false)), (.load none (.t 36))⟩,
    ⟨(some 38), (some (31, false)), (.bin .sub .none (.t 35) (.t 37))⟩,
    ⟨(some 39), (some (31, false)), (.bin .gtr .none (.t 33) (.t 38))⟩,
    ⟨(some 40), none, (.pick (.t 31) (.c (.v (.bool true))) (.t 39))⟩] false) (.cond (.t 40) (.seq [4] (.region [⟨(some 4), none, (.mv (.c (.v (.bool false))))⟩] false) .ret) .skip)) (.region [⟨(some 41), none, (.faddr 0 (.t 7))⟩,
    ⟨(some 42), none, (.load none (.t 41))⟩,
    ⟨(some 43), none, (.faddr 1 (.t 7))⟩,
    ⟨(some 44), none, (.load none (.t 43))⟩,
    ⟨(some 45), none, (.bin .add .none (.t 42) (.t 44))⟩,
    ⟨(some 5), none, (.mv (.t 45))⟩] false)))) (.region [⟨(some 46), none, (.bin .add .none (.t 11) (.c (.v (.int .i64 1))))⟩,
    ⟨(some 11), none, (.mv (.t 46))⟩] false))))
def s35 : SFn := 
  ⟨.plain, 2, [(.tmp 4)], (.seq [0, 1] (.region [⟨(some 4), none, (.mv (.c (.v (.bool false))))⟩] false) (.seq [0, 1, 5] (.region [⟨(some 8), none, (.mv (.t 0))⟩,
    ⟨(some 5), none, (.mv (.t 8))⟩] false) (.seq [] (.seq [0, 5, 9, 10, 11] (.region [⟨(some 9), none, (.mv (.t 1))⟩,
    ⟨(some 10), none, (.len (.t 9))⟩,
    ⟨(some 11), none, (.mv (.c (.v (.int .i64 0))))⟩] false) (.block 0 (.loop [0, 5, 9, 10, 11] s35b0))) (.seq [4] (.region [⟨(some 4), none, (.mv (.c (.v (.bool true))))⟩] false) .ret))))⟩
/- standby/standbyref25.time -/
def s36 : SFn := 
  ⟨.plain, 1, [(.tmp 2)], (.seq [0] (.region [⟨(some 2), none, (.mv (.c (.v (.bool false))))⟩] false) (.seq [2] (.region [⟨(some 3), none, (.mv (.t 0))⟩,
    ⟨(some 4), none, (.bin .geq .none (.t 3) (.c (.v (.int .i64 0))))⟩,
    ⟨(some 5), none, (.mv (.t 4))⟩,
    ⟨(some 6), (some (5, true)), (.mv (.t 0))⟩,
    ⟨(some 7), (some (5, true)), (.bin .leq .none (.t 6) (.c (.v (.int .i64 1073741824))))⟩,
    ⟨(some 8), none, (.pick (.t 5) (.t 7) (.c (.v (.bool false))))⟩,
    ⟨(some 2), none, (.mv (.t 8))⟩] false) .ret))⟩
/- standby/standbyref25.selective -/
def s37b0 : SCode := 
  (.seq [0, 1, 5, 6] (.seq [0, 1, 5, 6, 11] (.region [⟨(some 8), none, (.mv (.t 6))⟩,
    ⟨(some 9), none, (.mv (.t 1))⟩,
    ⟨(some 10), none, (.len (.t 9))⟩,
    ⟨(some 11), none, (.bin .lss .none (.t 8) (.t 10))⟩] false) (.cond (.t 11) .skip (.exit 0))) (.seq [0, 1, 5, 6] (.block 1 (.seq [0, 1, 6] (.seq [0, 1, 6, 54] (.region [⟨(some 14), none, (.mv (.t 1))⟩,
    ⟨(some 15), none, (.mv (.t 6))⟩,
    ⟨(some 16), none, (.iaddr 2 none (.t 14) (.t 15))⟩,
    ⟨(some 17), none, (.faddr 0 (.t 16))⟩,
    ⟨(some 18), none, (.load none (.t 17))⟩,
    ⟨(some 19), none, (.mv (.t 5))⟩,
    ⟨(some 20), none, (.bin .leq .none (.t 18) (.t 19))⟩,
    ⟨(some 21), none, (.mv (.t 20))⟩,
    ⟨(some 22), (some (21, false)), (.mv (.t 1))⟩,
    ⟨(some 23), (some (21, false)), (.mv (.t 6))⟩,
    ⟨(some 24), (some (21, false)), (.iaddr 2 none (.t 22) (.t 23))⟩,
    ⟨(some 25), (some (21, false)), (.faddr 1 (.t 24))⟩,
    ⟨(some 26), (some (21, false)), (.load none (.t 25))⟩,
    ⟨(some 27), (some (21, false)), (.bin .lss .none (.t 26) (.c (.v (.int .i64 1))))⟩,
    ⟨(some 28), none, (.pick (.t 21) (.c (.v (.bool true))) (.t 27))⟩,
    ⟨(some 29), none, (.mv (.t 28))⟩,
    ⟨(some 30), (some (29, false)), (.mv (.t 1))⟩,
    ⟨(some 31), (some (29, false)), (.mv (.t 6))⟩,
    ⟨(some 32), (some (29, false)), (.iaddr 2 none (.t 30) (.t 31))⟩,
    ⟨(some 33), (some (29, false)), (.faddr 0 (.t 32))⟩,
    ⟨(some 34), (some (29, false)), (.load none (.t 33))⟩,
    ⟨(some 35), (some (29, false)), (.mv (.t 0))⟩,
    ⟨(some 36), (some (29, false)), (.bin .add .none (.t 35) (.c (.v (.int .i64 64))))⟩,
    ⟨(some 37), (some (29, false)), (.bin .gtr .none (.t 34) (.t 36))⟩,
    ⟨(some 38), none, (.pick (.t 29) (.c (.v (.bool true))) (.t 37))⟩,
    ⟨(some 39), none, (.mv (.t 38))⟩,
    ⟨(some 40), (some (39, false)), (.mv (.t 1))⟩,
    ⟨(some 41), (some (39, false)), (.mv (.t 6))⟩,
    ⟨(some 42), (some (39, false)), (.iaddr 2 none (.t 40) (.t 41))⟩,
    ⟨(some 43), (some (39, false)), (.faddr 1 (.t 42))⟩,
    ⟨(some 44), (some (39, false)), (.load none (.t 43))⟩,
    ⟨(some 45), (some (39, false)), (.mv (.t 0))⟩,
    ⟨(some 46), (some (39, false)), (.bin .add .none (.t 45) (.c (.v (.int .i64 64))))⟩,
    ⟨(some 47), (some (39, false)), (.mv (.t 1))⟩,
    ⟨(some 48), (some (39, false)), (.mv (.t 6))⟩,
    ⟨(some 49), (some (39, false)), (.iaddr 2 none (.t 47) (.t 48))⟩,
    ⟨(some 50), (some (39, false)), (.faddr 0 (.t 49))⟩,
    ⟨(some 51), (some (39, false)), (.load none (.t 50))⟩,
    ⟨(some 52), (some (39, false)), (.bin .sub .none (.t 46) (.t 51))⟩,
    ⟨(some 53), (some (39, false)), (.bin .gtr .none (.t 44) (.t 52))⟩,
    ⟨(some 54), none, (.pick (.t 39) (.c (.v (.bool true))) (.t 53))⟩] true) (.cond (.t 54) (.seq [4] (.region [⟨(some 4), none, (.mv (.c (.v (.bool false))))⟩] false) .ret) .skip)) (.region [⟨(some 55), none, (.mv (.t 1))⟩,
    ⟨(some 56), none, (.mv (.t 6))⟩,
    ⟨(some 57), none, (.iaddr 2 none (.t 55) (.t 56))⟩,
    ⟨(some 58), none, (.faddr 0 (.t 57))⟩,
    ⟨(some 59), none, (.load none (.t 58))⟩,
    ⟨(some 60), none, (.mv (.t 1))⟩,
    ⟨(some 61), none, (.mv (.t 6))⟩,
    ⟨(some 62), none, (.iaddr 2 none (.t 60) (.t 61))⟩,
    ⟨(some 63), none, (.faddr 1 (.t 62))⟩,
    ⟨(some 64), none, (.load none (.t 63))⟩,
    ⟨(some 65), none, (.bin .add .none (.t 59) (.t 64))⟩,
    ⟨(some 5), none, (.mv (.t 65))⟩] true))) (.region [⟨(some 12), none, (.mv (.t 6))⟩,
    ⟨(some 13), none, (.bin .add .none (.t 12) (.c (.v (.int .i64 1))))⟩,
    ⟨(some 6), none, (.mv (.t 13))⟩] false)))
def s37 : SFn := 
  ⟨.plain, 2, [(.tmp 4)], (.seq [0, 1] (.region [⟨(some 4), none, (.mv (.c (.v (.bool false))))⟩] false) (.seq [0, 1, 5] (.region [⟨(some 7), none, (.mv (.t 0))⟩,
    ⟨(some 5), none, (.mv (.t 7))⟩] false) (.seq [] (.seq [0, 1, 5, 6] (.region [⟨(some 6), none, (.mv (.c (.v (.int .i64 0))))⟩] false) (.block 0 (.loop [0, 1, 5, 6] s37b0))) (.seq [4] (.region [⟨(some 4), none, (.mv (.c (.v (.bool true))))⟩] false) .ret))))⟩
/- standby/wire.PutInt -/
def s38 : SFn := 
  ⟨.keep, 2, [(.tmp 4)], (.seq [0, 1] (.region [⟨(some 4), none, (.mv (.c (.v (.slice none 0 0))))⟩] false) (.seq [4] (.region [⟨(some 5), none, (.mv (.t 0))⟩,
    ⟨(some 6), none, (.call (.c (.fn 31 [])) [(.t 5)])⟩,
    ⟨(some 7), none, (.mv (.t 1))⟩,
    ⟨(some 8), none, (.call (.c (.fn 67 [])) [(.t 6), (.t 7)])⟩,
    ⟨(some 4), none, (.mv (.t 8))⟩] false) .ret))⟩
/- standby/packet.seal -/
def s39 : SFn := 
  ⟨.grow, 1, [(.tmp 2)], (.seq [0] (.region [⟨(some 2), none, (.mv (.c (.v (.slice none 0 0))))⟩] false) (.seq [0, 3] (.region [⟨(some 4), none, (.mv (.t 0))⟩,
    ⟨(some 5), none, (.call (.c (.fn 68 [])) [(.t 4)])⟩,
    ⟨(some 3), none, (.mv (.t 5))⟩] false) (.seq [2] (.region [⟨(some 6), none, (.mv (.t 0))⟩,
    ⟨(some 7), none, (.mv (.t 3))⟩,
    ⟨(some 8), none, (.conv .u8 (.t 7))⟩,
    ⟨(some 9), none, (.mv (.t 3))⟩,
    ⟨(some 10), none, (.bin .shr .none (.t 9) (.c (.v (.int .u64 8))))⟩,
    ⟨(some 11), none, (.conv .u8 (.t 10))⟩,
    ⟨(some 12), none, (.mv (.t 3))⟩,
    ⟨(some 13), none, (.bin .shr .none (.t 12) (.c (.v (.int .u64 16))))⟩,
    ⟨(some 14), none, (.conv .u8 (.t 13))⟩,
    ⟨(some 15), none, (.mv (.t 3))⟩,
    ⟨(some 16), none, (.bin .shr .none (.t 15) (.c (.v (.int .u64 24))))⟩,
    ⟨(some 17), none, (.conv .u8 (.t 16))⟩,
    ⟨(some 18), none, (.bslice [(.v (.int .u8 0))] 4 [(0, (1, (.t 8))), (1, (1, (.t 11))), (2, (1, (.t 14))), (3, (1, (.t 17)))])⟩,
    ⟨(some 19), none, (.append 1 1 (.t 6) (.t 18))⟩,
    ⟨(some 2), none, (.mv (.t 19))⟩] false) .ret)))⟩
/- standby/wire.PutBytes -/
def s40 : SFn := 
  ⟨.keep, 2, [(.tmp 4)], (.seq [0, 1] (.region [⟨(some 4), none, (.mv (.c (.v (.slice none 0 0))))⟩] false) (.seq [4] (.region [⟨(some 5), none, (.mv (.t 0))⟩,
    ⟨(some 6), none, (.mv (.t 1))⟩,
    ⟨(some 7), none, (.len (.t 6))⟩,
    ⟨(some 8), none, (.call (.c (.fn 38 [])) [(.t 5), (.t 7)])⟩,
    ⟨(some 9), none, (.mv (.t 1))⟩,
    ⟨(some 10), none, (.append 1 1 (.t 8) (.t 9))⟩,
    ⟨(some 4), none, (.mv (.t 10))⟩] false) .ret))⟩
/- standby/wire.PutExtents -/
def s41 : SFn := 
  ⟨.keep, 2, [(.tmp 4)], (.seq [0, 1] (.region [⟨(some 4), none, (.mv (.c (.v (.slice none 0 0))))⟩] false) (.seq [4] (.region [⟨(some 5), none, (.mv (.t 0))⟩,
    ⟨(some 6), none, (.call (.c (.fn 31 [])) [(.t 5)])⟩,
    ⟨(some 7), none, (.mv (.t 1))⟩,
    ⟨(some 8), none, (.call (.c (.fn 69 [])) [(.t 6), (.t 7), (.c (.fn 70 []))])⟩,
    ⟨(some 4), none, (.mv (.t 8))⟩] false) .ret))⟩
/- standby/standbyref03.PutInt -/
def s42b0 : SCode := 
  (.seq [1, 5] (.seq [1, 5, 16] (.region [⟨(some 15), none, (.mv (.t 1))⟩,
    ⟨(some 16), none, (.bin .gtr .none (.t 15) (.c (.v (.int .i64 127))))⟩] false) (.cond (.t 16) .skip (.exit 0))) (.block 1 (.seq [1, 5] (.region [⟨(some 17), none, (.mv (.t 5))⟩,
    ⟨(some 18), none, (.mv (.t 1))⟩,
    ⟨(some 19), none, (.bin .rem .none (.t 18) (.c (.v (.int .i64 128))))⟩,
    ⟨(some 20), none, (.bin .add .none (.t 19) (.c (.v (.int .i64 128))))⟩,
    ⟨(some 21), none, (.conv .u8 (.t 20))⟩,
    ⟨(some 22), none, (.bslice [(.v (.int .u8 0))] 1 [(0, (1, (.t 21)))])⟩,
    ⟨(some 23), none, (.append 1 1 (.t 17) (.t 22))⟩,
    ⟨(some 5), none, (.mv (.t 23))⟩] false) (.region [⟨(some 24), none, (.mv (.t 1))⟩,
    ⟨(some 25), none, (.bin .quo .none (.t 24) (.c (.v (.int .i64 128))))⟩,
    ⟨(some 1), none, (.mv (.t 25))⟩] false))))
def s42 : SFn := 
  ⟨.keep, 2, [(.tmp 4)], (.seq [0, 1] (.region [⟨(some 4), none, (.mv (.c (.v (.slice none 0 0))))⟩] false) (.seq [0, 1, 5] (.region [⟨(some 5), none, (.mv (.c (.v (.slice none 0 0))))⟩] false) (.seq [1, 5] (.region [⟨(some 6), none, (.mv (.t 5))⟩,
    ⟨(some 7), none, (.mv (.t 0))⟩,
    ⟨(some 8), none, (.append 1 1 (.t 6) (.t 7))⟩,
    ⟨(some 5), none, (.mv (.t 8))⟩] false) (.seq [1, 5] (.seq [1, 5, 14] (.region [⟨(some 9), none, (.mv (.t 1))⟩,
    ⟨(some 10), none, (.bin .lss .none (.t 9) (.c (.v (.int .i64 0))))⟩,
    ⟨(some 11), none, (.mv (.t 10))⟩,
    ⟨(some 12), (some (11, false)), (.mv (.t 1))⟩,
    ⟨(some 13), (some (11, false)), (.bin .gtr .none (.t 12) (.c (.v (.int .i64 9007199254740991))))⟩,
    ⟨(some 14), none, (.pick (.t 11) (.c (.v (.bool true))) (.t 13))⟩] false) (.cond (.t 14) (.region [⟨(some 1), none, (.mv (.c (.v (.int .i64 0))))⟩] false) .skip)) (.seq [1, 5] (.block 0 (.loop [1, 5] s42b0)) (.seq [4] (.region [⟨(some 26), none, (.mv (.t 5))⟩,
    ⟨(some 27), none, (.mv (.t 1))⟩,
    ⟨(some 28), none, (.conv .u8 (.t 27))⟩,
    ⟨(some 29), none, (.bslice [(.v (.int .u8 0))] 1 [(0, (1, (.t 28)))])⟩,
    ⟨(some 30), none, (.append 1 1 (.t 26) (.t 29))⟩,
    ⟨(some 4), none, (.mv (.t 30))⟩] false) .ret))))))⟩
/- standby/standbyref03.PutExtents -/
def s43b0 : SCode := 
  (.seq [1, 5, 6] (.seq [1, 5, 6, 14] (.region [⟨(some 11), none, (.mv (.t 6))⟩,
    ⟨(some 12), none, (.mv (.t 1))⟩,
    ⟨(some 13), none, (.len (.t 12))⟩,
    ⟨(some 14), none, (.bin .lss .none (.t 11) (.t 13))⟩] false) (.cond (.t 14) .skip (.exit 0))) (.seq [1, 5, 6] (.block 1 (.region [⟨(some 17), none, (.mv (.t 5))⟩,
    ⟨(some 18), none, (.mv (.t 1))⟩,
    ⟨(some 19), none, (.mv (.t 6))⟩,
    ⟨(some 20), none, (.iaddr 2 none (.t 18) (.t 19))⟩,
    ⟨(some 21), none, (.faddr 0 (.t 20))⟩,
    ⟨(some 22), none, (.load none (.t 21))⟩,
    ⟨(some 23), none, (.call (.c (.fn 42 [])) [(.t 17), (.t 22)])⟩,
    ⟨(some 24), none, (.mv (.t 1))⟩,
    ⟨(some 25), none, (.mv (.t 6))⟩,
    ⟨(some 26), none, (.iaddr 2 none (.t 24) (.t 25))⟩,
    ⟨(some 27), none, (.faddr 1 (.t 26))⟩,
    ⟨(some 28), none, (.load none (.t 27))⟩,
    ⟨(some 29), none, (.call (.c (.fn 42 [])) [(.t 23), (.t 28)])⟩,
    ⟨(some 5), none, (.mv (.t 29))⟩] true)) (.region [⟨(some 15), none, (.mv (.t 6))⟩,
    ⟨(some 16), none, (.bin .add .none (.t 15) (.c (.v (.int .i64 1))))⟩,
    ⟨(some 6), none, (.mv (.t 16))⟩] false)))
def s43 : SFn := 
  ⟨.keep, 2, [(.tmp 4)], (.seq [0, 1] (.region [⟨(some 4), none, (.mv (.c (.v (.slice none 0 0))))⟩] false) (.seq [1, 5] (.region [⟨(some 7), none, (.mv (.t 0))⟩,
    ⟨(some 8), none, (.mv (.t 1))⟩,
    ⟨(some 9), none, (.len (.t 8))⟩,
    ⟨(some 10), none, (.call (.c (.fn 42 [])) [(.t 7), (.t 9)])⟩,
    ⟨(some 5), none, (.mv (.t 10))⟩] false) (.seq [5] (.seq [1, 5, 6] (.region [⟨(some 6), none, (.mv (.c (.v (.int .i64 0))))⟩] false) (.block 0 (.loop [1, 5, 6] s43b0))) (.seq [4] (.region [⟨(some 30), none, (.mv (.t 5))⟩,
    ⟨(some 4), none, (.mv (.t 30))⟩] false) .ret))))⟩
/- standby/standbyref03.PutBytes -/
def s44 : SFn := 
  ⟨.keep, 2, [(.tmp 4)], (.seq [0, 1] (.region [⟨(some 4), none, (.mv (.c (.v (.slice none 0 0))))⟩] false) (.seq [4] (.region [⟨(some 5), none, (.mv (.t 0))⟩,
    ⟨(some 6), none, (.mv (.t 1))⟩,
    ⟨(some 7), none, (.len (.t 6))⟩,
    ⟨(some 8), none, (.call (.c (.fn 42 [])) [(.t 5), (.t 7)])⟩,
    ⟨(some 9), none, (.mv (.t 1))⟩,
    ⟨(some 10), none, (.append 1 1 (.t 8) (.t 9))⟩,
    ⟨(some 4), none, (.mv (.t 10))⟩] false) .ret))⟩
/- standby/packet.Decode$1 -/
def s45 : SFn := 
  ⟨(.catch 3 2), 2, [], (.seq [0, 1, 2, 5] (.region [⟨(some 4), none, (.mv (.t 2))⟩,
    ⟨(some 5), none, (.bin .neq (.iface true) (.t 4) (.c (.v .nilIface)))⟩] false) (.cond (.t 5) (.region [⟨(some 6), none, (.build [(.v (.int .i64 0)), (.v (.int .i64 0)), (.v (.int .i64 0)), (.v (.int .i64 0)), (.v (.int .i64 0)), (.v (.slice none 0 0)), (.v (.slice none 0 0))] [])⟩,
    ⟨(some 7), none, (.mv (.t 2))⟩,
    ⟨(some 8), none, (.call (.c (.fn 46 [])) [(.t 7)])⟩,
    ⟨none, none, (.store 7 (.t 0) (.t 6))⟩,
    ⟨none, none, (.store 1 (.t 1) (.t 8))⟩] false) .skip))⟩
/- standby/packet.caught -/
def s46 : SFn := 
  ⟨.whole, 1, [(.tmp 2)], (.seq [0] (.region [⟨(some 2), none, (.mv (.c (.v (.int .i64 0))))⟩] false) (.seq [0, 3, 4] (.region [⟨(some 6), none, (.mv (.t 0))⟩,
    ⟨(some 7), none, (.tassert 102 true (.v (.int .i64 0)) (.t 6))⟩,
    ⟨(some 5), none, (.mv (.t 7))⟩,
    ⟨(some 8), none, (.extract (.t 5) 0)⟩,
    ⟨(some 9), none, (.extract (.t 5) 1)⟩,
    ⟨(some 3), none, (.mv (.t 8))⟩,
    ⟨(some 4), none, (.mv (.t 9))⟩] false) (.seq [3] (.seq [0, 3, 11] (.region [⟨(some 10), none, (.mv (.t 4))⟩,
    ⟨(some 11), none, (.un .not (.t 10))⟩] false) (.cond (.t 11) (.region [⟨(some 12), none, (.mv (.t 0))⟩,
    ⟨none, none, (.panic (.t 12))⟩] false) .skip)) (.seq [2] (.region [⟨(some 13), none, (.mv (.t 3))⟩,
    ⟨(some 2), none, (.mv (.t 13))⟩] false) .ret))))⟩
/- standby/packet.open -/
def s47 : SFn := 
  ⟨.whole, 1, [(.tmp 2)], (.seq [0] (.region [⟨(some 2), none, (.mv (.c (.v (.pointer none))))⟩] false) (.seq [0, 3] (.region [⟨(some 4), none, (.mv (.t 0))⟩,
    ⟨(some 5), none, (.len (.t 4))⟩,
    ⟨(some 6), none, (.bin .sub .none (.t 5) (.c (.v (.int .i64 4))))⟩,
    ⟨(some 3), none, (.mv (.t 6))⟩] false) (.seq [0, 3] (.block 0 (.seq [0, 3, 7] (.region [⟨(some 8), none, (.mv (.t 0))⟩,
    ⟨(some 9), none, (.len (.t 8))⟩,
    ⟨(some 10), none, (.bin .gtr .none (.t 9) (.c (.v (.int .i64 65536))))⟩,
    ⟨(some 7), none, (.mv (.t 10))⟩] false) (.cond (.t 7) (.region [⟨(some 11), none, (.call (.c (.fn 52 [])) [(.c (.v (.int .i64 5)))])⟩] false) (.seq [0, 3, 12] (.region [⟨(some 13), none, (.mv (.t 3))⟩,
    ⟨(some 14), none, (.bin .lss .none (.t 13) (.c (.v (.int .i64 0))))⟩,
    ⟨(some 12), none, (.mv (.t 14))⟩] false) (.cond (.t 12) (.region [⟨(some 15), none, (.call (.c (.fn 52 [])) [(.c (.v (.int .i64 10)))])⟩] false) (.seq [0, 3, 16] (.region [⟨(some 17), none, (.mv (.t 0))⟩,
    ⟨(some 18), none, (.mv (.t 3))⟩,
    ⟨(some 19), none, (.slice 1 (.t 17) none (some (.t 18)))⟩,
    ⟨(some 20), none, (.call (.c (.fn 31 [])) [(.t 19)])⟩,
    ⟨(some 21), none, (.call (.c (.fn 39 [])) [(.t 20)])⟩,
    ⟨(some 22), none, (.mv (.t 0))⟩,
    ⟨(some 23), none, (.call (.c (.fn 71 [])) [(.t 21), (.t 22)])⟩,
    ⟨(some 24), none, (.un .not (.t 23))⟩,
    ⟨(some 16), none, (.mv (.t 24))⟩] false) (.cond (.t 16) (.region [⟨(some 25), none, (.call (.c (.fn 52 [])) [(.c (.v (.int .i64 9)))])⟩] false) .skip))))))) (.seq [2] (.region [⟨(some 26), none, (.mv (.t 0))⟩,
    ⟨(some 27), none, (.mv (.t 3))⟩,
    ⟨(some 28), none, (.slice 1 (.t 26) none (some (.t 27)))⟩,
    ⟨(some 29), none, (.build [(.v (.slice none 0 0))] [(0, (1, (.t 28)))])⟩,
    ⟨(some 30), none, (.build [(.v (.slice none 0 0)), (.v (.slice none 0 0))] [(0, (1, (.t 29)))])⟩,
    ⟨(some 31), none, (.box (.t 30))⟩,
    ⟨(some 2), none, (.mv (.t 31))⟩] false) .ret))))⟩
/- (*standby/packet.rest).int -/
def s48 : SFn := 
  ⟨.whole, 2, [(.tmp 4)], (.seq [2, 3] (.region [⟨(some 2), none, (.box (.t 0))⟩,
    ⟨(some 3), none, (.box (.t 1))⟩,
    ⟨(some 4), none, (.mv (.c (.v .nilFunc)))⟩] false) (.seq [4] (.region [⟨(some 5), none, (.mkfn 72 [(.t 2), (.t 3)])⟩,
    ⟨(some 4), none, (.mv (.t 5))⟩] false) .ret))⟩
/- (*standby/packet.rest).extents -/
def s49 : SFn := 
  ⟨.whole, 2, [(.tmp 4)], (.seq [2, 3] (.region [⟨(some 2), none, (.box (.t 0))⟩,
    ⟨(some 3), none, (.box (.t 1))⟩,
    ⟨(some 4), none, (.mv (.c (.v .nilFunc)))⟩] false) (.seq [4] (.region [⟨(some 5), none, (.mkfn 74 [(.t 2), (.t 3)])⟩,
    ⟨(some 4), none, (.mv (.t 5))⟩] false) .ret))⟩
/- (*standby/packet.rest).bytes -/
def s50 : SFn := 
  ⟨.whole, 2, [(.tmp 4)], (.seq [2, 3] (.region [⟨(some 2), none, (.box (.t 0))⟩,
    ⟨(some 3), none, (.box (.t 1))⟩,
    ⟨(some 4), none, (.mv (.c (.v .nilFunc)))⟩] false) (.seq [4] (.region [⟨(some 5), none, (.mkfn 76 [(.t 2), (.t 3)])⟩,
    ⟨(some 4), none, (.mv (.t 5))⟩] false) .ret))⟩
/- (*standby/packet.reader).read -/
def s51b0 : SCode := 
  (.seq [0, 7, 8, 9, 10] (.region [⟨(some 10), none, (.bin .lss .none (.t 9) (.t 8))⟩] false) (.seq [0, 7, 8, 9] (.cond (.t 10) .skip (.exit 0)) (.seq [0, 7, 8, 9] (.block 1 (.seq [0, 3, 7, 8, 9] (.region [⟨(some 11), none, (.iaddr 1 none (.t 7) (.t 9))⟩,
    ⟨(some 12), none, (.load none (.t 11))⟩,
    ⟨(some 3), none, (.mv (.t 12))⟩] false) (.region [⟨(some 13), none, (.mv (.t 3))⟩,
    ⟨(some 14), none, (.call (.t 13) [])⟩] false))) (.region [⟨(some 15), none, (.bin .add .none (.t 9) (.c (.v (.int .i64 1))))⟩,
    ⟨(some 9), none, (.mv (.t 15))⟩] false))))
def s51 : SFn := 
  ⟨.whole, 1, [], (.seq [0] (.seq [0, 7, 8, 9] (.region [⟨(some 4), none, (.mv (.t 0))⟩,
    ⟨(some 5), none, (.nilck (.t 4))⟩,
    ⟨(some 6), none, (.faddr 1 (.t 5))⟩,
    ⟨(some 7), none, (.load none (.t 6))⟩,
    ⟨(some 8), none, (.len (.t 7))⟩,
    ⟨(some 9), none, (.mv (.c (.v (.int .i64 0))))⟩] false) (.block 0 (.loop [0, 7, 8, 9] s51b0))) (.seq [22] (.region [⟨(some 16), none, (.mv (.t 0))⟩,
    ⟨(some 17), none, (.nilck (.t 16))⟩,
    ⟨(some 18), none, (.faddr 0 (.t 17))⟩,
    ⟨(some 19), none, (.faddr 0 (.t 18))⟩,
    ⟨(some 20), none, (.load none (.t 19))⟩,
    ⟨(some 21), none, (.len (.t 20))⟩,
    ⟨(some 22), none, (.bin .gtr .none (.t 21) (.c (.v (.int .i64 0))))⟩] false) (.cond (.t 22) (.region [⟨(some 23), none, (.call (.c (.fn 52 [])) [(.c (.v (.int .i64 3)))])⟩] false) .skip)))⟩
/- standby/packet.demand -/
def s52 : SFn := 
  ⟨.plain, 1, [], (.seq [0, 3] (.region [⟨(some 2), none, (.mv (.t 0))⟩,
    ⟨(some 3), none, (.bin .neq .none (.t 2) (.c (.v (.int .i64 0))))⟩] false) (.cond (.t 3) (.region [⟨(some 4), none, (.mv (.t 0))⟩,
    ⟨(some 5), none, (.mkifc 102 (.t 4))⟩,
    ⟨none, none, (.panic (.t 5))⟩] false) .skip))⟩
/- standby/standbyref25.Opened -/
def s53 : SFn := 
  ⟨.plain, 1, [(.tmp 2), (.tmp 3)], (.seq [0] (.region [⟨(some 2), none, (.mv (.c (.v (.slice none 0 0))))⟩,
    ⟨(some 3), none, (.mv (.c (.v (.int .i64 0))))⟩] false) (.seq [0] (.seq [0, 7] (.region [⟨(some 5), none, (.mv (.t 0))⟩,
    ⟨(some 6), none, (.len (.t 5))⟩,
    ⟨(some 7), none, (.bin .gtr .none (.t 6) (.c (.v (.int .i64 65536))))⟩] false) (.cond (.t 7) (.seq [2, 3] (.region [⟨(some 2), none, (.mv (.c (.v (.slice none 0 0))))⟩,
    ⟨(some 3), none, (.mv (.c (.v (.int .i64 5))))⟩] false) .ret) .skip)) (.seq [0] (.seq [0, 10] (.region [⟨(some 8), none, (.mv (.t 0))⟩,
    ⟨(some 9), none, (.len (.t 8))⟩,
    ⟨(some 10), none, (.bin .lss .none (.t 9) (.c (.v (.int .i64 4))))⟩] false) (.cond (.t 10) (.seq [2, 3] (.region [⟨(some 2), none, (.mv (.c (.v (.slice none 0 0))))⟩,
    ⟨(some 3), none, (.mv (.c (.v (.int .i64 10))))⟩] false) .ret) .skip)) (.seq [0, 4] (.region [⟨(some 11), none, (.mv (.t 0))⟩,
    ⟨(some 12), none, (.len (.t 11))⟩,
    ⟨(some 13), none, (.bin .sub .none (.t 12) (.c (.v (.int .i64 4))))⟩,
    ⟨(some 4), none, (.mv (.t 13))⟩] false) (.seq [0, 4] (.seq [0, 4, 20] (.region [⟨(some 14), none, (.mv (.t 0))⟩,
    ⟨(some 15), none, (.mv (.t 4))⟩,
    ⟨(some 16), none, (.slice 1 (.t 14) none (some (.t 15)))⟩,
    ⟨(some 17), none, (.call (.c (.fn 21 [])) [(.t 16)])⟩,
    ⟨(some 18), none, (.mv (.t 0))⟩,
    ⟨(some 19), none, (.call (.c (.fn 63 [])) [(.t 17), (.t 18)])⟩,
    ⟨(some 20), none, (.un .not (.t 19))⟩] false) (.cond (.t 20) (.seq [2, 3] (.region [⟨(some 2), none, (.mv (.c (.v (.slice none 0 0))))⟩,
    ⟨(some 3), none, (.mv (.c (.v (.int .i64 9))))⟩] false) .ret) .skip)) (.seq [2, 3] (.region [⟨(some 21), none, (.mv (.t 0))⟩,
    ⟨(some 22), none, (.mv (.t 4))⟩,
    ⟨(some 23), none, (.slice 1 (.t 21) none (some (.t 22)))⟩,
    ⟨(some 2), none, (.mv (.t 23))⟩,
    ⟨(some 3), none, (.mv (.c (.v (.int .i64 0))))⟩] false) .ret))))))⟩
/- standby/standbyref25.numbers -/
def s54b0 : SCode := 
  (.seq [0, 1, 7, 8] (.seq [0, 1, 7, 8, 14] (.region [⟨(some 12), none, (.mv (.t 8))⟩,
    ⟨(some 13), none, (.mv (.t 1))⟩,
    ⟨(some 14), none, (.bin .lss .none (.t 12) (.t 13))⟩] false) (.cond (.t 14) .skip (.exit 0))) (.seq [0, 1, 7, 8] (.block 1 (.seq [1, 7, 8, 9, 10, 11] (.region [⟨(some 18), none, (.mv (.t 0))⟩,
    ⟨(some 19), none, (.call (.c (.fn 78 [])) [(.t 18)])⟩,
    ⟨(some 17), none, (.mv (.t 19))⟩,
    ⟨(some 20), none, (.extract (.t 17) 0)⟩,
    ⟨(some 21), none, (.extract (.t 17) 1)⟩,
    ⟨(some 22), none, (.extract (.t 17) 2)⟩,
    ⟨(some 9), none, (.mv (.t 20))⟩,
    ⟨(some 10), none, (.mv (.t 21))⟩,
    ⟨(some 11), none, (.mv (.t 22))⟩] false) (.seq [1, 7, 8, 9, 10] (.seq [1, 7, 8, 9, 10, 11, 24] (.region [⟨(some 23), none, (.mv (.t 11))⟩,
    ⟨(some 24), none, (.bin .neq .none (.t 23) (.c (.v (.int .i64 0))))⟩] false) (.cond (.t 24) (.seq [4, 5, 6] (.region [⟨(some 25), none, (.mv (.t 11))⟩,
    ⟨(some 4), none, (.mv (.c (.v (.slice none 0 0))))⟩,
    ⟨(some 5), none, (.mv (.c (.v (.slice none 0 0))))⟩,
    ⟨(some 6), none, (.mv (.t 25))⟩] false) .ret) .skip)) (.region [⟨(some 26), none, (.mv (.t 7))⟩,
    ⟨(some 27), none, (.mv (.t 9))⟩,
    ⟨(some 28), none, (.bslice [(.v (.int .i64 0))] 1 [(0, (1, (.t 27)))])⟩,
    ⟨(some 29), none, (.append 1 8 (.t 26) (.t 28))⟩,
    ⟨(some 30), none, (.mv (.t 10))⟩,
    ⟨(some 7), none, (.mv (.t 29))⟩,
    ⟨(some 0), none, (.mv (.t 30))⟩] false)))) (.region [⟨(some 15), none, (.mv (.t 8))⟩,
    ⟨(some 16), none, (.bin .add .none (.t 15) (.c (.v (.int .i64 1))))⟩,
    ⟨(some 8), none, (.mv (.t 16))⟩] false)))
def s54 : SFn := 
  ⟨.plain, 2, [(.tmp 4), (.tmp 5), (.tmp 6)], (.seq [0, 1] (.region [⟨(some 4), none, (.mv (.c (.v (.slice none 0 0))))⟩,
    ⟨(some 5), none, (.mv (.c (.v (.slice none 0 0))))⟩,
    ⟨(some 6), none, (.mv (.c (.v (.int .i64 0))))⟩] false) (.seq [0, 1, 7] (.region [⟨(some 7), none, (.mv (.c (.v (.slice none 0 0))))⟩] false) (.seq [0, 7] (.seq [0, 1, 7, 8] (.region [⟨(some 8), none, (.mv (.c (.v (.int .i64 0))))⟩] false) (.block 0 (.loop [0, 1, 7, 8] s54b0))) (.seq [4, 5, 6] (.region [⟨(some 31), none, (.mv (.t 7))⟩,
    ⟨(some 32), none, (.mv (.t 0))⟩,
    ⟨(some 4), none, (.mv (.t 31))⟩,
    ⟨(some 5), none, (.mv (.t 32))⟩,
    ⟨(some 6), none, (.mv (.c (.v (.int .i64 0))))⟩] false) .ret))))⟩
/- standby/standbyref03.Extents -/
def s55b0 : SCode := 
  (.seq [0, 5, 7, 8] (.seq [0, 5, 7, 8, 24] (.region [⟨(some 22), none, (.mv (.t 8))⟩,
    ⟨(some 23), none, (.mv (.t 5))⟩,
    ⟨(some 24), none, (.bin .lss .none (.t 22) (.t 23))⟩] false) (.cond (.t 24) .skip (.exit 0))) (.seq [0, 5, 7, 8] (.block 1 (.seq [5, 7, 8, 9, 10, 11] (.region [⟨(some 28), none, (.mv (.t 0))⟩,
    ⟨(some 29), none, (.call (.c (.fn 78 [])) [(.t 28)])⟩,
    ⟨(some 27), none, (.mv (.t 29))⟩,
    ⟨(some 30), none, (.extract (.t 27) 0)⟩,
    ⟨(some 31), none, (.extract (.t 27) 1)⟩,
    ⟨(some 32), none, (.extract (.t 27) 2)⟩,
    ⟨(some 9), none, (.mv (.t 30))⟩,
    ⟨(some 10), none, (.mv (.t 31))⟩,
    ⟨(some 11), none, (.mv (.t 32))⟩] false) (.seq [5, 7, 8, 9, 10] (.seq [5, 7, 8, 9, 10, 11, 34] (.region [⟨(some 33), none, (.mv (.t 11))⟩,
    ⟨(some 34), none, (.bin .neq .none (.t 33) (.c (.v (.int .i64 0))))⟩] false) (.cond (.t 34) (.seq [2, 3, 4] (.region [⟨(some 35), none, (.mv (.t 11))⟩,
    ⟨(some 2), none, (.mv (.c (.v (.slice none 0 0))))⟩,
    ⟨(some 3), none, (.mv (.c (.v (.slice none 0 0))))⟩,
    ⟨(some 4), none, (.mv (.t 35))⟩] false) .ret) .skip)) (.seq [5, 7, 8, 9, 10, 11, 12] (.region [⟨(some 37), none, (.mv (.t 10))⟩,
    ⟨(some 38), none, (.call (.c (.fn 78 [])) [(.t 37)])⟩,
    ⟨(some 36), none, (.mv (.t 38))⟩,
    ⟨(some 39), none, (.extract (.t 36) 0)⟩,
    ⟨(some 40), none, (.extract (.t 36) 1)⟩,
    ⟨(some 41), none, (.extract (.t 36) 2)⟩,
    ⟨(some 12), none, (.mv (.t 39))⟩,
    ⟨(some 10), none, (.mv (.t 40))⟩,
    ⟨(some 11), none, (.mv (.t 41))⟩] false) (.seq [5, 7, 8, 9, 10, 12] (.seq [5, 7, 8, 9, 10, 11, 12, 43] (.region [⟨(some 42), none, (.mv (.t 11))⟩,
    ⟨(some 43), none, (.bin .neq .none (.t 42) (.c (.v (.int .i64 0))))⟩] false) (.cond (.t 43) (.seq [2, 3, 4] (.region [⟨(some 44), none, (.mv (.t 11))⟩,
    ⟨(some 2), none, (.mv (.c (.v (.slice none 0 0))))⟩,
    ⟨(some 3), none, (.mv (.c (.v (.slice none 0 0))))⟩,
    ⟨(some 4), none, (.mv (.t 44))⟩] false) .ret) .skip)) (.region [⟨(some 45), none, (.mv (.t 7))⟩,
    ⟨(some 46), none, (.mv (.t 9))⟩,
    ⟨(some 47), none, (.mv (.t 12))⟩,
    ⟨(some 48), none, (.build [(.v (.int .i64 0)), (.v (.int .i64 0))] [(0, (1, (.t 46))), (1, (1, (.t 47)))])⟩,
    ⟨(some 49), none, (.bslice [(.v (.int .i64 0)), (.v (.int .i64 0))] 1 [(0, (2, (.t 48)))])⟩,
    ⟨(some 50), none, (.append 2 16 (.t 45) (.t 49))⟩,
    ⟨(some 51), none, (.mv (.t 10))⟩,
    ⟨(some 7), none, (.mv (.t 50))⟩,
    ⟨(some 0), none, (.mv (.t 51))⟩] false)))))) (.region [⟨(some 25), none, (.mv (.t 8))⟩,
    ⟨(some 26), none, (.bin .add .none (.t 25) (.c (.v (.int .i64 1))))⟩,
    ⟨(some 8), none, (.mv (.t 26))⟩] false)))
def s55 : SFn := 
  ⟨.plain, 1, [(.tmp 2), (.tmp 3), (.tmp 4)], (.seq [0] (.region [⟨(some 2), none, (.mv (.c (.v (.slice none 0 0))))⟩,
    ⟨(some 3), none, (.mv (.c (.v (.slice none 0 0))))⟩,
    ⟨(some 4), none, (.mv (.c (.v (.int .i64 0))))⟩] false) (.seq [0, 5, 6] (.region [⟨(some 14), none, (.mv (.t 0))⟩,
    ⟨(some 15), none, (.call (.c (.fn 79 [])) [(.t 14)])⟩,
    ⟨(some 13), none, (.mv (.t 15))⟩,
    ⟨(some 16), none, (.extract (.t 13) 0)⟩,
    ⟨(some 17), none, (.extract (.t 13) 1)⟩,
    ⟨(some 18), none, (.extract (.t 13) 2)⟩,
    ⟨(some 5), none, (.mv (.t 16))⟩,
    ⟨(some 0), none, (.mv (.t 17))⟩,
    ⟨(some 6), none, (.mv (.t 18))⟩] false) (.seq [0, 5] (.seq [0, 5, 6, 20] (.region [⟨(some 19), none, (.mv (.t 6))⟩,
    ⟨(some 20), none, (.bin .neq .none (.t 19) (.c (.v (.int .i64 0))))⟩] false) (.cond (.t 20) (.seq [2, 3, 4] (.region [⟨(some 21), none, (.mv (.t 6))⟩,
    ⟨(some 2), none, (.mv (.c (.v (.slice none 0 0))))⟩,
    ⟨(some 3), none, (.mv (.c (.v (.slice none 0 0))))⟩,
    ⟨(some 4), none, (.mv (.t 21))⟩] false) .ret) .skip)) (.seq [0, 5, 7] (.region [⟨(some 7), none, (.mv (.c (.v (.slice none 0 0))))⟩] false) (.seq [0, 7] (.seq [0, 5, 7, 8] (.region [⟨(some 8), none, (.mv (.c (.v (.int .i64 0))))⟩] false) (.block 0 (.loop [0, 5, 7, 8] s55b0))) (.seq [2, 3, 4] (.region [⟨(some 52), none, (.mv (.t 7))⟩,
    ⟨(some 53), none, (.mv (.t 0))⟩,
    ⟨(some 2), none, (.mv (.t 52))⟩,
    ⟨(some 3), none, (.mv (.t 53))⟩,
    ⟨(some 4), none, (.mv (.c (.v (.int .i64 0))))⟩] false) .ret))))))⟩
/- standby/standbyref03.Bytes -/
def s56 : SFn := 
  ⟨.plain, 1, [(.tmp 2), (.tmp 3), (.tmp 4)], (.seq [0] (.region [⟨(some 2), none, (.mv (.c (.v (.slice none 0 0))))⟩,
    ⟨(some 3), none, (.mv (.c (.v (.slice none 0 0))))⟩,
    ⟨(some 4), none, (.mv (.c (.v (.int .i64 0))))⟩] false) (.seq [0, 5, 6] (.region [⟨(some 9), none, (.mv (.t 0))⟩,
    ⟨(some 10), none, (.call (.c (.fn 79 [])) [(.t 9)])⟩,
    ⟨(some 8), none, (.mv (.t 10))⟩,
    ⟨(some 11), none, (.extract (.t 8) 0)⟩,
    ⟨(some 12), none, (.extract (.t 8) 1)⟩,
    ⟨(some 13), none, (.extract (.t 8) 2)⟩,
    ⟨(some 5), none, (.mv (.t 11))⟩,
    ⟨(some 0), none, (.mv (.t 12))⟩,
    ⟨(some 6), none, (.mv (.t 13))⟩] false) (.seq [0, 5] (.seq [0, 5, 6, 15] (.region [⟨(some 14), none, (.mv (.t 6))⟩,
    ⟨(some 15), none, (.bin .neq .none (.t 14) (.c (.v (.int .i64 0))))⟩] false) (.cond (.t 15) (.seq [2, 3, 4] (.region [⟨(some 16), none, (.mv (.t 6))⟩,
    ⟨(some 2), none, (.mv (.c (.v (.slice none 0 0))))⟩,
    ⟨(some 3), none, (.mv (.c (.v (.slice none 0 0))))⟩,
    ⟨(some 4), none, (.mv (.t 16))⟩] false) .ret) .skip)) (.seq [0, 5] (.seq [0, 5, 20] (.region [⟨(some 17), none, (.mv (.t 5))⟩,
    ⟨(some 18), none, (.mv (.t 0))⟩,
    ⟨(some 19), none, (.len (.t 18))⟩,
    ⟨(some 20), none, (.bin .gtr .none (.t 17) (.t 19))⟩] false) (.cond (.t 20) (.seq [2, 3, 4] (.region [⟨(some 2), none, (.mv (.c (.v (.slice none 0 0))))⟩,
    ⟨(some 3), none, (.mv (.c (.v (.slice none 0 0))))⟩,
    ⟨(some 4), none, (.mv (.c (.v (.int .i64 10))))⟩] false) .ret) .skip)) (.seq [0, 5, 7] (.region [⟨(some 7), none, (.mv (.c (.v (.slice none 0 0))))⟩] false) (.seq [2, 3, 4] (.region [⟨(some 21), none, (.mv (.t 7))⟩,
    ⟨(some 22), none, (.mv (.t 0))⟩,
    ⟨(some 23), none, (.mv (.t 5))⟩,
    ⟨(some 24), none, (.slice 1 (.t 22) none (some (.t 23)))⟩,
    ⟨(some 25), none, (.append 1 1 (.t 21) (.t 24))⟩,
    ⟨(some 26), none, (.mv (.t 0))⟩,
    ⟨(some 27), none, (.mv (.t 5))⟩,
    ⟨(some 28), none, (.call (.c (.fn 80 [])) [(.t 26), (.t 27)])⟩,
    ⟨(some 2), none, (.mv (.t 25))⟩,
    ⟨(some 3), none, (.mv (.t 28))⟩,
    ⟨(some 4), none, (.mv (.c (.v (.int .i64 0))))⟩] false) .ret))))))⟩
/- standby/packet.DecodeMessage$1 -/
def s57 : SFn := 
  ⟨(.catch 3 2), 2, [], (.seq [0, 1, 2, 5] (.region [⟨(some 4), none, (.mv (.t 2))⟩,
    ⟨(some 5), none, (.bin .neq (.iface true) (.t 4) (.c (.v .nilIface)))⟩] false) (.cond (.t 5) (.region [⟨(some 6), none, (.build [(.v (.int .i64 0)), (.v (.int .i64 0)), (.v (.int .i64 0)), (.v (.int .i64 0)), (.v (.int .i64 0)), (.v (.int .i64 0)), (.v (.slice none 0 0)), (.v (.slice none 0 0))] [])⟩,
    ⟨(some 7), none, (.mv (.t 2))⟩,
    ⟨(some 8), none, (.call (.c (.fn 46 [])) [(.t 7)])⟩,
    ⟨none, none, (.store 8 (.t 0) (.t 6))⟩,
    ⟨none, none, (.store 1 (.t 1) (.t 8))⟩] false) .skip))⟩
/- (*standby/packet.rest).ints -/
def s58 : SFn := 
  ⟨.whole, 2, [(.tmp 4)], (.seq [2, 3] (.region [⟨(some 2), none, (.box (.t 0))⟩,
    ⟨(some 3), none, (.box (.t 1))⟩,
    ⟨(some 4), none, (.mv (.c (.v .nilFunc)))⟩] false) (.seq [4] (.region [⟨(some 5), none, (.mkfn 81 [(.t 2), (.t 3)])⟩,
    ⟨(some 4), none, (.mv (.t 5))⟩] false) .ret))⟩
/- standby/packet.checkMessage -/
def s59 : SFn := 
  ⟨.plain, 1, [(.tmp 2)], (.seq [1] (.region [⟨(some 1), none, (.box (.t 0))⟩,
    ⟨(some 2), none, (.mv (.c (.v (.int .i64 0))))⟩] false) (.seq [] (.block 0 (.seq [1, 3] (.region [⟨(some 4), none, (.faddr 0 (.t 1))⟩,
    ⟨(some 5), none, (.load none (.t 4))⟩,
    ⟨(some 6), none, (.bin .lss .none (.t 5) (.c (.v (.int .i64 1))))⟩,
    ⟨(some 7), none, (.mv (.t 6))⟩,
    ⟨(some 8), (some (7, false)), (.faddr 0 (.t 1))⟩,
    ⟨(some 9), (some (7, false)), (.load none (.t 8))⟩,
    ⟨(some 10), (some (7, false)), (.bin .gtr .none (.t 9) (.c (.v (.int .i64 26))))⟩,
    ⟨(some 11), none, (.pick (.t 7) (.c (.v (.bool true))) (.t 10))⟩,
    ⟨(some 3), none, (.mv (.t 11))⟩] false) (.cond (.t 3) (.seq [2] (.region [⟨(some 2), none, (.mv (.c (.v (.int .i64 1))))⟩] false) .ret) (.seq [1, 12] (.seq [1, 12] (.region [⟨(some 13), none, (.faddr 1 (.t 1))⟩,
    ⟨(some 14), none, (.load none (.t 13))⟩,
    ⟨(some 15), none, (.call (.c (.fn 34 [])) [(.t 14)])⟩,
    ⟨(some 16), none, (.un .not (.t 15))⟩,
    ⟨(some 17), none, (.mv (.t 16))⟩,
    ⟨(some 18), (some (17, false)), (.faddr 2 (.t 1))⟩,
    ⟨(some 19), (some (17, false)), (.load none (.t 18))⟩,
    ⟨(some 20), (some (17, false)), (.call (.c (.fn 34 [])) [(.t 19)])⟩,
    ⟨(some 21), (some (17, false)), (.un .not (.t 20))⟩,
    ⟨(some 22), none, (.pick (.t 17) (.c (.v (.bool true))) (.t 21))⟩,
    ⟨(some 23), none, (.mv (.t 22))⟩,
    ⟨(some 24), (some (23, false)), (.faddr 3 (.t 1))⟩,
    ⟨(some 25), (some (23, false)), (.load none (.t 24))⟩,
    ⟨(some 26), (some (23, false)), (.call (.c (.fn 83 [])) [(.t 25)])⟩,
    ⟨(some 27), (some (23, false)), (.un .not (.t 26))⟩,
    ⟨(some 28), none, (.pick (.t 23) (.c (.v (.bool true))) (.t 27))⟩,
    ⟨(some 29), none, (.mv (.t 28))⟩,
    ⟨(some 30), (some (29, false)), (.faddr 4 (.t 1))⟩,
    ⟨(some 31), (some (29, false)), (.load none (.t 30))⟩,
    ⟨(some 32), (some (29, false)), (.call (.c (.fn 83 [])) [(.t 31)])⟩,
    ⟨(some 33), (some (29, false)), (.un .not (.t 32))⟩,
    ⟨(some 34), none, (.pick (.t 29) (.c (.v (.bool true))) (.t 33))⟩,
    ⟨(some 35), none, (.mv (.t 34))⟩,
    ⟨(some 36), (some (35, false)), (.faddr 5 (.t 1))⟩,
    ⟨(some 37), (some (35, false)), (.load none (.t 36))⟩,
    ⟨(some 38), (some (35, false)), (.call (.c (.fn 83 [])) [(.t 37)])⟩,
    ⟨(some 39), (some (35, false)), (.un .not (.t 38))⟩,
    ⟨(some 40), none, (.pick (.t 35) (.c (.v (.bool true))) (.t 39))⟩,
    ⟨(some 12), none, (.mv (.t 40))⟩] false) (.cond (.t 12) .skip (.region [⟨(some 41), none, (.faddr 6 (.t 1))⟩,
    ⟨(some 42), none, (.load none (.t 41))⟩,
    ⟨(some 43), none, (.call (.c (.fn 84 [])) [(.t 42), (.c (.fn 85 []))])⟩,
    ⟨(some 12), none, (.mv (.t 43))⟩] false))) (.cond (.t 12) (.seq [2] (.region [⟨(some 2), none, (.mv (.c (.v (.int .i64 2))))⟩] false) .ret) (.seq [44] (.region [⟨(some 45), none, (.faddr 6 (.t 1))⟩,
    ⟨(some 46), none, (.load none (.t 45))⟩,
    ⟨(some 47), none, (.len (.t 46))⟩,
    ⟨(some 48), none, (.bin .gtr .none (.t 47) (.c (.v (.int .i64 4096))))⟩,
    ⟨(some 44), none, (.mv (.t 48))⟩] false) (.cond (.t 44) (.seq [2] (.region [⟨(some 2), none, (.mv (.c (.v (.int .i64 6))))⟩] false) .ret) .skip))))))) (.seq [2] (.region [⟨(some 2), none, (.mv (.c (.v (.int .i64 0))))⟩] false) .ret)))⟩
/- standby/standbyref03.Ints -/
def s60b0 : SCode := 
  (.seq [0, 5, 7, 8] (.seq [0, 5, 7, 8, 23] (.region [⟨(some 21), none, (.mv (.t 8))⟩,
    ⟨(some 22), none, (.mv (.t 5))⟩,
    ⟨(some 23), none, (.bin .lss .none (.t 21) (.t 22))⟩] false) (.cond (.t 23) .skip (.exit 0))) (.seq [0, 5, 7, 8] (.block 1 (.seq [5, 7, 8, 9, 10, 11] (.region [⟨(some 27), none, (.mv (.t 0))⟩,
    ⟨(some 28), none, (.call (.c (.fn 78 [])) [(.t 27)])⟩,
    ⟨(some 26), none, (.mv (.t 28))⟩,
    ⟨(some 29), none, (.extract (.t 26) 0)⟩,
    ⟨(some 30), none, (.extract (.t 26) 1)⟩,
    ⟨(some 31), none, (.extract (.t 26) 2)⟩,
    ⟨(some 9), none, (.mv (.t 29))⟩,
    ⟨(some 10), none, (.mv (.t 30))⟩,
    ⟨(some 11), none, (.mv (.t 31))⟩] false) (.seq [5, 7, 8, 9, 10] (.seq [5, 7, 8, 9, 10, 11, 33] (.region [⟨(some 32), none, (.mv (.t 11))⟩,
    ⟨(some 33), none, (.bin .neq .none (.t 32) (.c (.v (.int .i64 0))))⟩] false) (.cond (.t 33) (.seq [2, 3, 4] (.region [⟨(some 34), none, (.mv (.t 11))⟩,
    ⟨(some 2), none, (.mv (.c (.v (.slice none 0 0))))⟩,
    ⟨(some 3), none, (.mv (.c (.v (.slice none 0 0))))⟩,
    ⟨(some 4), none, (.mv (.t 34))⟩] false) .ret) .skip)) (.region [⟨(some 35), none, (.mv (.t 7))⟩,
    ⟨(some 36), none, (.mv (.t 9))⟩,
    ⟨(some 37), none, (.bslice [(.v (.int .i64 0))] 1 [(0, (1, (.t 36)))])⟩,
    ⟨(some 38), none, (.append 1 8 (.t 35) (.t 37))⟩,
    ⟨(some 39), none, (.mv (.t 10))⟩,
    ⟨(some 7), none, (.mv (.t 38))⟩,
    ⟨(some 0), none, (.mv (.t 39))⟩] false)))) (.region [⟨(some 24), none, (.mv (.t 8))⟩,
    ⟨(some 25), none, (.bin .add .none (.t 24) (.c (.v (.int .i64 1))))⟩,
    ⟨(some 8), none, (.mv (.t 25))⟩] false)))
def s60 : SFn := 
  ⟨.plain, 1, [(.tmp 2), (.tmp 3), (.tmp 4)], (.seq [0] (.region [⟨(some 2), none, (.mv (.c (.v (.slice none 0 0))))⟩,
    ⟨(some 3), none, (.mv (.c (.v (.slice none 0 0))))⟩,
    ⟨(some 4), none, (.mv (.c (.v (.int .i64 0))))⟩] false) (.seq [0, 5, 6] (.region [⟨(some 13), none, (.mv (.t 0))⟩,
    ⟨(some 14), none, (.call (.c (.fn 79 [])) [(.t 13)])⟩,
    ⟨(some 12), none, (.mv (.t 14))⟩,
    ⟨(some 15), none, (.extract (.t 12) 0)⟩,
    ⟨(some 16), none, (.extract (.t 12) 1)⟩,
    ⟨(some 17), none, (.extract (.t 12) 2)⟩,
    ⟨(some 5), none, (.mv (.t 15))⟩,
    ⟨(some 0), none, (.mv (.t 16))⟩,
    ⟨(some 6), none, (.mv (.t 17))⟩] false) (.seq [0, 5] (.seq [0, 5, 6, 19] (.region [⟨(some 18), none, (.mv (.t 6))⟩,
    ⟨(some 19), none, (.bin .neq .none (.t 18) (.c (.v (.int .i64 0))))⟩] false) (.cond (.t 19) (.seq [2, 3, 4] (.region [⟨(some 20), none, (.mv (.t 6))⟩,
    ⟨(some 2), none, (.mv (.c (.v (.slice none 0 0))))⟩,
    ⟨(some 3), none, (.mv (.c (.v (.slice none 0 0))))⟩,
    ⟨(some 4), none, (.mv (.t 20))⟩] false) .ret) .skip)) (.seq [0, 5, 7] (.region [⟨(some 7), none, (.mv (.c (.v (.slice none 0 0))))⟩] false) (.seq [0, 7] (.seq [0, 5, 7, 8] (.region [⟨(some 8), none, (.mv (.c (.v (.int .i64 0))))⟩] false) (.block 0 (.loop [0, 5, 7, 8] s60b0))) (.seq [2, 3, 4] (.region [⟨(some 40), none, (.mv (.t 7))⟩,
    ⟨(some 41), none, (.mv (.t 0))⟩,
    ⟨(some 2), none, (.mv (.t 40))⟩,
    ⟨(some 3), none, (.mv (.t 41))⟩,
    ⟨(some 4), none, (.mv (.c (.v (.int .i64 0))))⟩] false) .ret))))))⟩
/- standby/standbyref25.CheckMessage -/
def s61b0 : SCode := 
  (.seq [1, 3, 4] (.seq [1, 3, 4, 55] (.region [⟨(some 51), none, (.mv (.t 4))⟩,
    ⟨(some 52), none, (.faddr 6 (.t 1))⟩,
    ⟨(some 53), none, (.load none (.t 52))⟩,
    ⟨(some 54), none, (.len (.t 53))⟩,
    ⟨(some 55), none, (.bin .lss .none (.t 51) (.t 54))⟩] false) (.cond (.t 55) .skip (.exit 0))) (.seq [1, 3, 4] (.block 1 (.region [⟨(some 58), none, (.mv (.t 3))⟩,
    ⟨(some 59), none, (.mv (.t 58))⟩,
    ⟨(some 60), (some (59, true)), (.faddr 6 (.t 1))⟩,
    ⟨(some 61), (some (59, true)), (.load none (.t 60))⟩,
    ⟨(some 62), (some (59, true)), (.mv (.t 4))⟩,
    ⟨(some 63), (some (59, true)), (.iaddr 1 none (.t 61) (.t 62))⟩,
    ⟨(some 64), (some (59, true)), (.load none (.t 63))⟩,
    ⟨(some 65), (some (59, true)), (.bin .geq .none (.t 64) (.c (.v (.int .i64 0))))⟩,
    ⟨(some 66), none, (.pick (.t 59) (.t 65) (.c (.v (.bool false))))⟩,
    ⟨(some 67), none, (.mv (.t 66))⟩,
    ⟨(some 68), (some (67, true)), (.faddr 6 (.t 1))⟩,
    ⟨(some 69), (some (67, true)), (.load none (.t 68))⟩,
    ⟨(some 70), (some (67, true)), (.mv (.t 4))⟩,
    ⟨(some 71), (some (67, true)), (.iaddr 1 none (.t 69) (.t 70))⟩,
    ⟨(some 72), (some (67, true)), (.load none (.t 71))⟩,
    ⟨(some 73), (some (67, true)), (.bin .leq .none (.t 72) (.c (.v (.int .i64 9007199254740991))))⟩,
    ⟨(some 74), none, (.pick (.t 67) (.t 73) (.c (.v (.bool false))))⟩,
    ⟨(some 3), none, (.mv (.t 74))⟩] false)) (.region [⟨(some 56), none, (.mv (.t 4))⟩,
    ⟨(some 57), none, (.bin .add .none (.t 56) (.c (.v (.int .i64 1))))⟩,
    ⟨(some 4), none, (.mv (.t 57))⟩] false)))
def s61 : SFn := 
  ⟨.plain, 1, [(.tmp 2)], (.seq [1] (.region [⟨(some 1), none, (.box (.t 0))⟩,
    ⟨(some 2), none, (.mv (.c (.v (.int .i64 0))))⟩] false) (.seq [1] (.seq [1, 12] (.region [⟨(some 5), none, (.faddr 0 (.t 1))⟩,
    ⟨(some 6), none, (.load none (.t 5))⟩,
    ⟨(some 7), none, (.bin .lss .none (.t 6) (.c (.v (.int .i64 1))))⟩,
    ⟨(some 8), none, (.mv (.t 7))⟩,
    ⟨(some 9), (some (8, false)), (.faddr 0 (.t 1))⟩,
    ⟨(some 10), (some (8, false)), (.load none (.t 9))⟩,
    ⟨(some 11), (some (8, false)), (.bin .gtr .none (.t 10) (.c (.v (.int .i64 26))))⟩,
    ⟨(some 12), none, (.pick (.t 8) (.c (.v (.bool true))) (.t 11))⟩] false) (.cond (.t 12) (.seq [2] (.region [⟨(some 2), none, (.mv (.c (.v (.int .i64 1))))⟩] false) .ret) .skip)) (.seq [1, 3] (.region [⟨(some 13), none, (.faddr 1 (.t 1))⟩,
    ⟨(some 14), none, (.load none (.t 13))⟩,
    ⟨(some 15), none, (.call (.c (.fn 36 [])) [(.t 14)])⟩,
    ⟨(some 16), none, (.mv (.t 15))⟩,
    ⟨(some 17), (some (16, true)), (.faddr 2 (.t 1))⟩,
    ⟨(some 18), (some (16, true)), (.load none (.t 17))⟩,
    ⟨(some 19), (some (16, true)), (.call (.c (.fn 36 [])) [(.t 18)])⟩,
    ⟨(some 20), none, (.pick (.t 16) (.t 19) (.c (.v (.bool false))))⟩,
    ⟨(some 21), none, (.mv (.t 20))⟩,
    ⟨(some 22), (some (21, true)), (.faddr 3 (.t 1))⟩,
    ⟨(some 23), (some (21, true)), (.load none (.t 22))⟩,
    ⟨(some 24), (some (21, true)), (.bin .geq .none (.t 23) (.c (.v (.int .i64 0))))⟩,
    ⟨(some 25), none, (.pick (.t 21) (.t 24) (.c (.v (.bool false))))⟩,
    ⟨(some 26), none, (.mv (.t 25))⟩,
    ⟨(some 27), (some (26, true)), (.faddr 3 (.t 1))⟩,
    ⟨(some 28), (some (26, true)), (.load none (.t 27))⟩,
    ⟨(some 29), (some (26, true)), (.bin .leq .none (.t 28) (.c (.v (.int .i64 9007199254740991))))⟩,
    ⟨(some 30), none, (.pick (.t 26) (.t 29) (.c (.v (.bool false))))⟩,
    ⟨(some 31), none, (.mv (.t 30))⟩,
    ⟨(some 32), (some (31, true)), (.faddr 4 (.t 1))⟩,
    ⟨(some 33), (some (31, true)), (.load none (.t 32))⟩,
    ⟨(some 34), (some (31, true)), (.bin .geq .none (.t 33) (.c (.v (.int .i64 0))))⟩,
    ⟨(some 35), none, (.pick (.t 31) (.t 34) (.c (.v (.bool false))))⟩,
    ⟨(some 36), none, (.mv (.t 35))⟩,
    ⟨(some 37), (some (36, true)), (.faddr 4 (.t 1))⟩,
    ⟨(some 38), (some (36, true)), (.load none (.t 37))⟩,
    ⟨(some 39), (some (36, true)), (.bin .leq .none (.t 38) (.c (.v (.int .i64 9007199254740991))))⟩,
    ⟨(some 40), none, (.pick (.t 36) (.t 39) (.c (.v (.bool false))))⟩,
    ⟨(some 41), none, (.mv (.t 40))⟩,
    ⟨(some 42), (some (41, true)), (.faddr 5 (.t 1))⟩,
    ⟨(some 43), (some (41, true)), (.load none (.t 42))⟩,
    ⟨(some 44), (some (41, true)), (.bin .geq .none (.t 43) (.c (.v (.int .i64 0))))⟩,
    ⟨(some 45), none, (.pick (.t 41) (.t 44) (.c (.v (.bool false))))⟩,
    ⟨(some 46), none, (.mv (.t 45))⟩,
    ⟨(some 47), (some (46, true)), (.faddr 5 (.t 1))⟩,
    ⟨(some 48), (some (46, true)), (.load none (.t 47))⟩,
    ⟨(some 49), (some (46, true)), (.bin .leq .none (.t 48) (.c (.v (.int .i64 9007199254740991))))⟩,
    ⟨(some 50), none, (.pick (.t 46) (.t 49) (.c (.v (.bool false))))⟩,
    ⟨(some 3), none, (.mv (.t 50))⟩] false) (.seq [1, 3] (.seq [1, 3, 4] (.region [⟨(some 4), none, (.mv (.c (.v (.int .i64 0))))⟩] false) (.block 0 (.loop [1, 3, 4] s61b0))) (.seq [1] (.seq [1, 76] (.region [⟨(some 75), none, (.mv (.t 3))⟩,
    ⟨(some 76), none, (.un .not (.t 75))⟩] false) (.cond (.t 76) (.seq [2] (.region [⟨(some 2), none, (.mv (.c (.v (.int .i64 2))))⟩] false) .ret) .skip)) (.seq [] (.seq [80] (.region [⟨(some 77), none, (.faddr 6 (.t 1))⟩,
    ⟨(some 78), none, (.load none (.t 77))⟩,
    ⟨(some 79), none, (.len (.t 78))⟩,
    ⟨(some 80), none, (.bin .gtr .none (.t 79) (.c (.v (.int .i64 4096))))⟩] false) (.cond (.t 80) (.seq [2] (.region [⟨(some 2), none, (.mv (.c (.v (.int .i64 6))))⟩] false) .ret) .skip)) (.seq [2] (.region [⟨(some 2), none, (.mv (.c (.v (.int .i64 0))))⟩] false) .ret)))))))⟩
/- standby/standbyref25.SameExtents -/
def s62b0 : SCode := 
  (.seq [0, 1, 5] (.seq [0, 1, 5, 14] (.region [⟨(some 11), none, (.mv (.t 5))⟩,
    ⟨(some 12), none, (.mv (.t 0))⟩,
    ⟨(some 13), none, (.len (.t 12))⟩,
    ⟨(some 14), none, (.bin .lss .none (.t 11) (.t 13))⟩] false) (.cond (.t 14) .skip (.exit 0))) (.seq [0, 1, 5] (.block 1 (.seq [0, 1, 5, 25] (.region [⟨(some 17), none, (.mv (.t 0))⟩,
    ⟨(some 18), none, (.mv (.t 5))⟩,
    ⟨(some 19), none, (.iaddr 2 none (.t 17) (.t 18))⟩,
    ⟨(some 20), none, (.load (some 2) (.t 19))⟩,
    ⟨(some 21), none, (.mv (.t 1))⟩,
    ⟨(some 22), none, (.mv (.t 5))⟩,
    ⟨(some 23), none, (.iaddr 2 none (.t 21) (.t 22))⟩,
    ⟨(some 24), none, (.load (some 2) (.t 23))⟩,
    ⟨(some 25), none, (.bin .neq (.cells 2) (.t 20) (.t 24))⟩] true) (.cond (.t 25) (.seq [4] (.region [⟨(some 4), none, (.mv (.c (.v (.bool false))))⟩] false) .ret) .skip))) (.region [⟨(some 15), none, (.mv (.t 5))⟩,
    ⟨(some 16), none, (.bin .add .none (.t 15) (.c (.v (.int .i64 1))))⟩,
    ⟨(some 5), none, (.mv (.t 16))⟩] false)))
def s62 : SFn := 
  ⟨.plain, 2, [(.tmp 4)], (.seq [0, 1] (.region [⟨(some 4), none, (.mv (.c (.v (.bool false))))⟩] false) (.seq [0, 1] (.seq [0, 1, 10] (.region [⟨(some 6), none, (.mv (.t 0))⟩,
    ⟨(some 7), none, (.len (.t 6))⟩,
    ⟨(some 8), none, (.mv (.t 1))⟩,
    ⟨(some 9), none, (.len (.t 8))⟩,
    ⟨(some 10), none, (.bin .neq .none (.t 7) (.t 9))⟩] false) (.cond (.t 10) (.seq [4] (.region [⟨(some 4), none, (.mv (.c (.v (.bool false))))⟩] false) .ret) .skip)) (.seq [] (.seq [0, 1, 5] (.region [⟨(some 5), none, (.mv (.c (.v (.int .i64 0))))⟩] false) (.block 0 (.loop [0, 1, 5] s62b0))) (.seq [4] (.region [⟨(some 4), none, (.mv (.c (.v (.bool true))))⟩] false) .ret))))⟩
/- standby/standbyref25.SameBytes -/
def s63b0 : SCode := 
  (.seq [0, 1, 5] (.seq [0, 1, 5, 14] (.region [⟨(some 11), none, (.mv (.t 5))⟩,
    ⟨(some 12), none, (.mv (.t 0))⟩,
    ⟨(some 13), none, (.len (.t 12))⟩,
    ⟨(some 14), none, (.bin .lss .none (.t 11) (.t 13))⟩] false) (.cond (.t 14) .skip (.exit 0))) (.seq [0, 1, 5] (.block 1 (.seq [0, 1, 5, 25] (.region [⟨(some 17), none, (.mv (.t 0))⟩,
    ⟨(some 18), none, (.mv (.t 5))⟩,
    ⟨(some 19), none, (.iaddr 1 none (.t 17) (.t 18))⟩,
    ⟨(some 20), none, (.load none (.t 19))⟩,
    ⟨(some 21), none, (.mv (.t 1))⟩,
    ⟨(some 22), none, (.mv (.t 5))⟩,
    ⟨(some 23), none, (.iaddr 1 none (.t 21) (.t 22))⟩,
    ⟨(some 24), none, (.load none (.t 23))⟩,
    ⟨(some 25), none, (.bin .neq .none (.t 20) (.t 24))⟩] true) (.cond (.t 25) (.seq [4] (.region [⟨(some 4), none, (.mv (.c (.v (.bool false))))⟩] false) .ret) .skip))) (.region [⟨(some 15), none, (.mv (.t 5))⟩,
    ⟨(some 16), none, (.bin .add .none (.t 15) (.c (.v (.int .i64 1))))⟩,
    ⟨(some 5), none, (.mv (.t 16))⟩] false)))
def s63 : SFn := 
  ⟨.plain, 2, [(.tmp 4)], (.seq [0, 1] (.region [⟨(some 4), none, (.mv (.c (.v (.bool false))))⟩] false) (.seq [0, 1] (.seq [0, 1, 10] (.region [⟨(some 6), none, (.mv (.t 0))⟩,
    ⟨(some 7), none, (.len (.t 6))⟩,
    ⟨(some 8), none, (.mv (.t 1))⟩,
    ⟨(some 9), none, (.len (.t 8))⟩,
    ⟨(some 10), none, (.bin .neq .none (.t 7) (.t 9))⟩] false) (.cond (.t 10) (.seq [4] (.region [⟨(some 4), none, (.mv (.c (.v (.bool false))))⟩] false) .ret) .skip)) (.seq [] (.seq [0, 1, 5] (.region [⟨(some 5), none, (.mv (.c (.v (.int .i64 0))))⟩] false) (.block 0 (.loop [0, 1, 5] s63b0))) (.seq [4] (.region [⟨(some 4), none, (.mv (.c (.v (.bool true))))⟩] false) .ret))))⟩
/- standby/wire.PutInts -/
def s64 : SFn := 
  ⟨.keep, 2, [(.tmp 4)], (.seq [0, 1] (.region [⟨(some 4), none, (.mv (.c (.v (.slice none 0 0))))⟩] false) (.seq [4] (.region [⟨(some 5), none, (.mv (.t 0))⟩,
    ⟨(some 6), none, (.call (.c (.fn 31 [])) [(.t 5)])⟩,
    ⟨(some 7), none, (.mv (.t 1))⟩,
    ⟨(some 8), none, (.call (.c (.fn 86 [])) [(.t 6), (.t 7), (.c (.fn 67 []))])⟩,
    ⟨(some 4), none, (.mv (.t 8))⟩] false) .ret))⟩
/- standby/standbyref03.PutInts -/
def s65b0 : SCode := 
  (.seq [1, 5, 6] (.seq [1, 5, 6, 14] (.region [⟨(some 11), none, (.mv (.t 6))⟩,
    ⟨(some 12), none, (.mv (.t 1))⟩,
    ⟨(some 13), none, (.len (.t 12))⟩,
    ⟨(some 14), none, (.bin .lss .none (.t 11) (.t 13))⟩] false) (.cond (.t 14) .skip (.exit 0))) (.seq [1, 5, 6] (.block 1 (.region [⟨(some 17), none, (.mv (.t 5))⟩,
    ⟨(some 18), none, (.mv (.t 1))⟩,
    ⟨(some 19), none, (.mv (.t 6))⟩,
    ⟨(some 20), none, (.iaddr 1 none (.t 18) (.t 19))⟩,
    ⟨(some 21), none, (.load none (.t 20))⟩,
    ⟨(some 22), none, (.call (.c (.fn 42 [])) [(.t 17), (.t 21)])⟩,
    ⟨(some 5), none, (.mv (.t 22))⟩] false)) (.region [⟨(some 15), none, (.mv (.t 6))⟩,
    ⟨(some 16), none, (.bin .add .none (.t 15) (.c (.v (.int .i64 1))))⟩,
    ⟨(some 6), none, (.mv (.t 16))⟩] false)))
def s65 : SFn := 
  ⟨.keep, 2, [(.tmp 4)], (.seq [0, 1] (.region [⟨(some 4), none, (.mv (.c (.v (.slice none 0 0))))⟩] false) (.seq [1, 5] (.region [⟨(some 7), none, (.mv (.t 0))⟩,
    ⟨(some 8), none, (.mv (.t 1))⟩,
    ⟨(some 9), none, (.len (.t 8))⟩,
    ⟨(some 10), none, (.call (.c (.fn 42 [])) [(.t 7), (.t 9)])⟩,
    ⟨(some 5), none, (.mv (.t 10))⟩] false) (.seq [5] (.seq [1, 5, 6] (.region [⟨(some 6), none, (.mv (.c (.v (.int .i64 0))))⟩] false) (.block 0 (.loop [1, 5, 6] s65b0))) (.seq [4] (.region [⟨(some 23), none, (.mv (.t 5))⟩,
    ⟨(some 4), none, (.mv (.t 23))⟩] false) .ret))))⟩
/- standby/standbyref04.Update -/
def s66b0 : SCode := 
  (.seq [1, 5, 6] (.seq [1, 5, 6, 12] (.region [⟨(some 9), none, (.mv (.t 6))⟩,
    ⟨(some 10), none, (.mv (.t 1))⟩,
    ⟨(some 11), none, (.len (.t 10))⟩,
    ⟨(some 12), none, (.bin .lss .none (.t 9) (.t 11))⟩] false) (.cond (.t 12) .skip (.exit 0))) (.seq [1, 5, 6] (.block 1 (.region [⟨(some 15), none, (.mv (.t 5))⟩,
    ⟨(some 16), none, (.mv (.t 1))⟩,
    ⟨(some 17), none, (.mv (.t 6))⟩,
    ⟨(some 18), none, (.iaddr 1 none (.t 16) (.t 17))⟩,
    ⟨(some 19), none, (.load none (.t 18))⟩,
    ⟨(some 20), none, (.call (.c (.fn 87 [])) [(.t 15), (.t 19)])⟩,
    ⟨(some 5), none, (.mv (.t 20))⟩] false)) (.region [⟨(some 13), none, (.mv (.t 6))⟩,
    ⟨(some 14), none, (.bin .add .none (.t 13) (.c (.v (.int .i64 1))))⟩,
    ⟨(some 6), none, (.mv (.t 14))⟩] false)))
def s66 : SFn := 
  ⟨.plain, 2, [(.tmp 4)], (.seq [0, 1] (.region [⟨(some 4), none, (.mv (.c (.v (.int .u32 0))))⟩] false) (.seq [1, 5] (.region [⟨(some 7), none, (.mv (.t 0))⟩,
    ⟨(some 8), none, (.un .xor (.t 7))⟩,
    ⟨(some 5), none, (.mv (.t 8))⟩] false) (.seq [5] (.seq [1, 5, 6] (.region [⟨(some 6), none, (.mv (.c (.v (.int .i64 0))))⟩] false) (.block 0 (.loop [1, 5, 6] s66b0))) (.seq [4] (.region [⟨(some 21), none, (.mv (.t 5))⟩,
    ⟨(some 22), none, (.un .xor (.t 21))⟩,
    ⟨(some 4), none, (.mv (.t 22))⟩] false) .ret))))⟩
/- standby/wire.putInt -/
def s67b0 : SCode := 
  (.seq [0, 1] (.seq [0, 1, 12] (.region [⟨(some 11), none, (.mv (.t 1))⟩,
    ⟨(some 12), none, (.bin .geq .none (.t 11) (.c (.v (.int .i64 128))))⟩] false) (.cond (.t 12) .skip (.exit 0))) (.seq [0, 1] (.block 1 (.region [⟨(some 15), none, (.mv (.t 0))⟩,
    ⟨(some 16), none, (.mv (.t 1))⟩,
    ⟨(some 17), none, (.bin .rem .none (.t 16) (.c (.v (.int .i64 128))))⟩,
    ⟨(some 18), none, (.conv .u8 (.t 17))⟩,
    ⟨(some 19), none, (.bin .or .none (.t 18) (.c (.v (.int .u8 128))))⟩,
    ⟨(some 20), none, (.bslice [(.v (.int .u8 0))] 1 [(0, (1, (.t 19)))])⟩,
    ⟨(some 21), none, (.append 1 1 (.t 15) (.t 20))⟩,
    ⟨(some 0), none, (.mv (.t 21))⟩] false)) (.region [⟨(some 13), none, (.mv (.t 1))⟩,
    ⟨(some 14), none, (.bin .quo .none (.t 13) (.c (.v (.int .i64 128))))⟩,
    ⟨(some 1), none, (.mv (.t 14))⟩] false)))
def s67 : SFn := 
  ⟨.grow, 2, [(.tmp 4)], (.seq [0, 1] (.region [⟨(some 4), none, (.mv (.c (.v (.slice none 0 0))))⟩] false) (.seq [0, 1] (.seq [0, 1, 10] (.region [⟨(some 5), none, (.mv (.t 1))⟩,
    ⟨(some 6), none, (.bin .lss .none (.t 5) (.c (.v (.int .i64 0))))⟩,
    ⟨(some 7), none, (.mv (.t 6))⟩,
    ⟨(some 8), (some (7, false)), (.mv (.t 1))⟩,
    ⟨(some 9), (some (7, false)), (.bin .gtr .none (.t 8) (.c (.v (.int .i64 9007199254740991))))⟩,
    ⟨(some 10), none, (.pick (.t 7) (.c (.v (.bool true))) (.t 9))⟩] false) (.cond (.t 10) (.region [⟨(some 1), none, (.mv (.c (.v (.int .i64 0))))⟩] false) .skip)) (.seq [0, 1] (.block 0 (.loop [0, 1] s67b0)) (.seq [4] (.region [⟨(some 22), none, (.mv (.t 0))⟩,
    ⟨(some 23), none, (.mv (.t 1))⟩,
    ⟨(some 24), none, (.conv .u8 (.t 23))⟩,
    ⟨(some 25), none, (.bslice [(.v (.int .u8 0))] 1 [(0, (1, (.t 24)))])⟩,
    ⟨(some 26), none, (.append 1 1 (.t 22) (.t 25))⟩,
    ⟨(some 4), none, (.mv (.t 26))⟩] false) .ret))))⟩
/- standby/checksum.Sum -/
def s68 : SFn := 
  ⟨.plain, 1, [(.tmp 2)], (.seq [0] (.region [⟨(some 2), none, (.mv (.c (.v (.int .u32 0))))⟩] false) (.seq [2] (.region [⟨(some 3), none, (.mv (.t 0))⟩,
    ⟨(some 4), none, (.call (.c (.fn 88 [])) [(.c (.v (.int .u32 0))), (.t 3)])⟩,
    ⟨(some 2), none, (.mv (.t 4))⟩] false) .ret))⟩
/- standby/wire.put[standby/api.Extent] -/
def s69b0 : SCode := 
  (.seq [0, 2, 13, 14, 15, 16] (.region [⟨(some 16), none, (.bin .lss .none (.t 15) (.t 14))⟩] false) (.seq [0, 2, 13, 14, 15] (.cond (.t 16) .skip (.exit 0)) (.seq [0, 2, 13, 14, 15] (.block 1 (.seq [0, 2, 8, 13, 14, 15] (.region [⟨(some 17), none, (.iaddr 2 none (.t 13) (.t 15))⟩,
    ⟨(some 18), none, (.load (some 2) (.t 17))⟩,
    ⟨(some 8), none, (.alloc [(.v (.int .i64 0)), (.v (.int .i64 0))])⟩,
    ⟨none, none, (.store 2 (.t 8) (.t 18))⟩] false) (.region [⟨(some 19), none, (.mv (.t 2))⟩,
    ⟨(some 20), none, (.mv (.t 0))⟩,
    ⟨(some 21), none, (.load (some 2) (.t 8))⟩,
    ⟨(some 22), none, (.call (.t 19) [(.t 20), (.t 21)])⟩,
    ⟨(some 0), none, (.mv (.t 22))⟩] false))) (.region [⟨(some 23), none, (.bin .add .none (.t 15) (.c (.v (.int .i64 1))))⟩,
    ⟨(some 15), none, (.mv (.t 23))⟩] false))))
def s69 : SFn := 
  ⟨.whole, 3, [(.tmp 6)], (.seq [0, 1, 2] (.region [⟨(some 6), none, (.mv (.c (.v (.slice none 0 0))))⟩] false) (.seq [0, 1, 2] (.region [⟨(some 9), none, (.mv (.t 0))⟩,
    ⟨(some 10), none, (.mv (.t 1))⟩,
    ⟨(some 11), none, (.len (.t 10))⟩,
    ⟨(some 12), none, (.call (.c (.fn 67 [])) [(.t 9), (.t 11)])⟩,
    ⟨(some 0), none, (.mv (.t 12))⟩] false) (.seq [0] (.seq [0, 2, 13, 14, 15] (.region [⟨(some 13), none, (.mv (.t 1))⟩,
    ⟨(some 14), none, (.len (.t 13))⟩,
    ⟨(some 15), none, (.mv (.c (.v (.int .i64 0))))⟩] false) (.block 0 (.loop [0, 2, 13, 14, 15] s69b0))) (.seq [6] (.region [⟨(some 24), none, (.mv (.t 0))⟩,
    ⟨(some 6), none, (.mv (.t 24))⟩] false) .ret))))⟩
/- standby/wire.putExtent -/
def s70 : SFn := 
  ⟨.whole, 2, [(.tmp 4)], (.seq [0, 3] (.region [⟨(some 3), none, (.box (.t 1))⟩,
    ⟨(some 4), none, (.mv (.c (.v (.slice none 0 0))))⟩] false) (.seq [4] (.region [⟨(some 5), none, (.mv (.t 0))⟩,
    ⟨(some 6), none, (.faddr 0 (.t 3))⟩,
    ⟨(some 7), none, (.load none (.t 6))⟩,
    ⟨(some 8), none, (.call (.c (.fn 67 [])) [(.t 5), (.t 7)])⟩,
    ⟨(some 9), none, (.faddr 1 (.t 3))⟩,
    ⟨(some 10), none, (.load none (.t 9))⟩,
    ⟨(some 11), none, (.call (.c (.fn 67 [])) [(.t 8), (.t 10)])⟩,
    ⟨(some 4), none, (.mv (.t 11))⟩] true) .ret))⟩
/- slices.Equal[[]byte,byte] -/
def s71b0 : SCode := 
  (.seq [0, 1, 12, 13, 14] (.region [⟨(some 14), none, (.bin .lss .none (.t 13) (.t 12))⟩] false) (.seq [0, 1, 12, 13] (.cond (.t 14) .skip (.exit 0)) (.seq [0, 1, 12, 13] (.block 1 (.seq [0, 1, 5, 12, 13] (.region [⟨(some 15), none, (.mv (.t 13))⟩,
    ⟨(some 5), none, (.mv (.t 15))⟩] false) (.seq [0, 1, 12, 13, 24] (.region [⟨(some 16), none, (.mv (.t 0))⟩,
    ⟨(some 17), none, (.mv (.t 5))⟩,
    ⟨(some 18), none, (.iaddr 1 none (.t 16) (.t 17))⟩,
    ⟨(some 19), none, (.load none (.t 18))⟩,
    ⟨(some 20), none, (.mv (.t 1))⟩,
    ⟨(some 21), none, (.mv (.t 5))⟩,
    ⟨(some 22), none, (.iaddr 1 none (.t 20) (.t 21))⟩,
    ⟨(some 23), none, (.load none (.t 22))⟩,
    ⟨(some 24), none, (.bin .neq .none (.t 19) (.t 23))⟩] true) (.cond (.t 24) (.seq [4] (.region [⟨(some 4), none, (.mv (.c (.v (.bool false))))⟩] false) .ret) .skip)))) (.region [⟨(some 25), none, (.bin .add .none (.t 13) (.c (.v (.int .i64 1))))⟩,
    ⟨(some 13), none, (.mv (.t 25))⟩] false))))
def s71 : SFn := 
  ⟨.plain, 2, [(.tmp 4)], (.seq [0, 1] (.region [⟨(some 4), none, (.mv (.c (.v (.bool false))))⟩] false) (.seq [0, 1] (.seq [0, 1, 10] (.region [⟨(some 6), none, (.mv (.t 0))⟩,
    ⟨(some 7), none, (.len (.t 6))⟩,
    ⟨(some 8), none, (.mv (.t 1))⟩,
    ⟨(some 9), none, (.len (.t 8))⟩,
    ⟨(some 10), none, (.bin .neq .none (.t 7) (.t 9))⟩] false) (.cond (.t 10) (.seq [4] (.region [⟨(some 4), none, (.mv (.c (.v (.bool false))))⟩] false) .ret) .skip)) (.seq [] (.seq [0, 1, 12, 13] (.region [⟨(some 11), none, (.mv (.t 0))⟩,
    ⟨(some 12), none, (.len (.t 11))⟩,
    ⟨(some 13), none, (.mv (.c (.v (.int .i64 0))))⟩] false) (.block 0 (.loop [0, 1, 12, 13] s71b0))) (.seq [4] (.region [⟨(some 4), none, (.mv (.c (.v (.bool true))))⟩] false) .ret))))⟩
/- (*standby/packet.rest).int$1 -/
def s72 : SFn := 
  ⟨.whole, 2, [], (.seq [0, 1, 2, 3, 4] (.region [⟨(some 6), none, (.load none (.t 0))⟩,
    ⟨(some 7), none, (.nilck (.t 6))⟩,
    ⟨(some 8), none, (.faddr 0 (.t 7))⟩,
    ⟨(some 9), none, (.load none (.t 8))⟩,
    ⟨(some 10), none, (.call (.c (.fn 73 [])) [(.t 9)])⟩,
    ⟨(some 5), none, (.mv (.t 10))⟩,
    ⟨(some 11), none, (.extract (.t 5) 0)⟩,
    ⟨(some 12), none, (.extract (.t 5) 1)⟩,
    ⟨(some 13), none, (.extract (.t 5) 2)⟩,
    ⟨(some 2), none, (.mv (.t 11))⟩,
    ⟨(some 3), none, (.mv (.t 12))⟩,
    ⟨(some 4), none, (.mv (.t 13))⟩] false) (.seq [0, 1, 2, 3] (.region [⟨(some 14), none, (.mv (.t 4))⟩,
    ⟨(some 15), none, (.call (.c (.fn 52 [])) [(.t 14)])⟩] false) (.regionF [⟨(some 16), none, (.load none (.t 1))⟩,
    ⟨(some 17), none, (.load none (.t 0))⟩,
    ⟨(some 18), none, (.mv (.t 2))⟩,
    ⟨(some 19), none, (.mv (.t 3))⟩,
    ⟨(some 20), none, (.nilck (.t 16))⟩,
    ⟨none, none, (.store 1 (.t 20) (.t 18))⟩,
    ⟨(some 21), none, (.nilck (.t 17))⟩,
    ⟨(some 22), none, (.faddr 0 (.t 21))⟩,
    ⟨none, none, (.store 1 (.t 22) (.t 19))⟩])))⟩
/- standby/wire.Int -/
def s73 : SFn := 
  ⟨.plain, 1, [(.tmp 2), (.tmp 3), (.tmp 4)], (.seq [0] (.region [⟨(some 2), none, (.mv (.c (.v (.int .i64 0))))⟩,
    ⟨(some 3), none, (.mv (.c (.v (.slice none 0 0))))⟩,
    ⟨(some 4), none, (.mv (.c (.v (.int .i64 0))))⟩] false) (.seq [2, 3, 4] (.region [⟨(some 5), none, (.mv (.t 0))⟩,
    ⟨(some 6), none, (.call (.c (.fn 89 [])) [(.t 5), (.c (.fn 90 []))])⟩,
    ⟨(some 7), none, (.extract (.t 6) 0)⟩,
    ⟨(some 8), none, (.extract (.t 6) 1)⟩,
    ⟨(some 9), none, (.extract (.t 6) 2)⟩,
    ⟨(some 2), none, (.mv (.t 7))⟩,
    ⟨(some 3), none, (.mv (.t 8))⟩,
    ⟨(some 4), none, (.mv (.t 9))⟩] false) .ret))⟩
/- (*standby/packet.rest).extents$1 -/
def s74 : SFn := 
  ⟨.whole, 2, [], (.seq [0, 1, 2, 3, 4] (.region [⟨(some 6), none, (.load none (.t 0))⟩,
    ⟨(some 7), none, (.nilck (.t 6))⟩,
    ⟨(some 8), none, (.faddr 0 (.t 7))⟩,
    ⟨(some 9), none, (.load none (.t 8))⟩,
    ⟨(some 10), none, (.call (.c (.fn 75 [])) [(.t 9)])⟩,
    ⟨(some 5), none, (.mv (.t 10))⟩,
    ⟨(some 11), none, (.extract (.t 5) 0)⟩,
    ⟨(some 12), none, (.extract (.t 5) 1)⟩,
    ⟨(some 13), none, (.extract (.t 5) 2)⟩,
    ⟨(some 2), none, (.mv (.t 11))⟩,
    ⟨(some 3), none, (.mv (.t 12))⟩,
    ⟨(some 4), none, (.mv (.t 13))⟩] false) (.seq [0, 1, 2, 3] (.region [⟨(some 14), none, (.mv (.t 4))⟩,
    ⟨(some 15), none, (.call (.c (.fn 52 [])) [(.t 14)])⟩] false) (.regionF [⟨(some 16), none, (.load none (.t 1))⟩,
    ⟨(some 17), none, (.load none (.t 0))⟩,
    ⟨(some 18), none, (.mv (.t 2))⟩,
    ⟨(some 19), none, (.mv (.t 3))⟩,
    ⟨(some 20), none, (.nilck (.t 16))⟩,
    ⟨none, none, (.store 1 (.t 20) (.t 18))⟩,
    ⟨(some 21), none, (.nilck (.t 17))⟩,
    ⟨(some 22), none, (.faddr 0 (.t 21))⟩,
    ⟨none, none, (.store 1 (.t 22) (.t 19))⟩])))⟩
/- standby/wire.Extents -/
def s75 : SFn := 
  ⟨.plain, 1, [(.tmp 2), (.tmp 3), (.tmp 4)], (.seq [0] (.region [⟨(some 2), none, (.mv (.c (.v (.slice none 0 0))))⟩,
    ⟨(some 3), none, (.mv (.c (.v (.slice none 0 0))))⟩,
    ⟨(some 4), none, (.mv (.c (.v (.int .i64 0))))⟩] false) (.seq [2, 3, 4] (.region [⟨(some 5), none, (.mv (.t 0))⟩,
    ⟨(some 6), none, (.call (.c (.fn 91 [])) [(.t 5), (.c (.fn 92 []))])⟩,
    ⟨(some 7), none, (.extract (.t 6) 0)⟩,
    ⟨(some 8), none, (.extract (.t 6) 1)⟩,
    ⟨(some 9), none, (.extract (.t 6) 2)⟩,
    ⟨(some 2), none, (.mv (.t 7))⟩,
    ⟨(some 3), none, (.mv (.t 8))⟩,
    ⟨(some 4), none, (.mv (.t 9))⟩] false) .ret))⟩
/- (*standby/packet.rest).bytes$1 -/
def s76 : SFn := 
  ⟨.whole, 2, [], (.seq [0, 1, 2, 3, 4] (.region [⟨(some 6), none, (.load none (.t 0))⟩,
    ⟨(some 7), none, (.nilck (.t 6))⟩,
    ⟨(some 8), none, (.faddr 0 (.t 7))⟩,
    ⟨(some 9), none, (.load none (.t 8))⟩,
    ⟨(some 10), none, (.call (.c (.fn 77 [])) [(.t 9)])⟩,
    ⟨(some 5), none, (.mv (.t 10))⟩,
    ⟨(some 11), none, (.extract (.t 5) 0)⟩,
    ⟨(some 12), none, (.extract (.t 5) 1)⟩,
    ⟨(some 13), none, (.extract (.t 5) 2)⟩,
    ⟨(some 2), none, (.mv (.t 11))⟩,
    ⟨(some 3), none, (.mv (.t 12))⟩,
    ⟨(some 4), none, (.mv (.t 13))⟩] false) (.seq [0, 1, 2, 3] (.region [⟨(some 14), none, (.mv (.t 4))⟩,
    ⟨(some 15), none, (.call (.c (.fn 52 [])) [(.t 14)])⟩] false) (.regionF [⟨(some 16), none, (.load none (.t 1))⟩,
    ⟨(some 17), none, (.load none (.t 0))⟩,
    ⟨(some 18), none, (.mv (.t 2))⟩,
    ⟨(some 19), none, (.mv (.t 3))⟩,
    ⟨(some 20), none, (.nilck (.t 16))⟩,
    ⟨none, none, (.store 1 (.t 20) (.t 18))⟩,
    ⟨(some 21), none, (.nilck (.t 17))⟩,
    ⟨(some 22), none, (.faddr 0 (.t 21))⟩,
    ⟨none, none, (.store 1 (.t 22) (.t 19))⟩])))⟩
/- standby/wire.Bytes -/
def s77 : SFn := 
  ⟨.plain, 1, [(.tmp 2), (.tmp 3), (.tmp 4)], (.seq [0] (.region [⟨(some 2), none, (.mv (.c (.v (.slice none 0 0))))⟩,
    ⟨(some 3), none, (.mv (.c (.v (.slice none 0 0))))⟩,
    ⟨(some 4), none, (.mv (.c (.v (.int .i64 0))))⟩] false) (.seq [2, 3, 4] (.region [⟨(some 5), none, (.mv (.t 0))⟩,
    ⟨(some 6), none, (.call (.c (.fn 95 [])) [(.t 5), (.c (.fn 96 []))])⟩,
    ⟨(some 7), none, (.extract (.t 6) 0)⟩,
    ⟨(some 8), none, (.extract (.t 6) 1)⟩,
    ⟨(some 9), none, (.extract (.t 6) 2)⟩,
    ⟨(some 2), none, (.mv (.t 7))⟩,
    ⟨(some 3), none, (.mv (.t 8))⟩,
    ⟨(some 4), none, (.mv (.t 9))⟩] false) .ret))⟩
/- standby/standbyref03.Int -/
def s78 : SFn := 
  ⟨.plain, 1, [(.tmp 2), (.tmp 3), (.tmp 4)], (.seq [0] (.region [⟨(some 2), none, (.mv (.c (.v (.int .i64 0))))⟩,
    ⟨(some 3), none, (.mv (.c (.v (.slice none 0 0))))⟩,
    ⟨(some 4), none, (.mv (.c (.v (.int .i64 0))))⟩] false) (.seq [0, 5, 6, 7] (.region [⟨(some 9), none, (.mv (.t 0))⟩,
    ⟨(some 10), none, (.call (.c (.fn 97 [])) [(.t 9)])⟩,
    ⟨(some 8), none, (.mv (.t 10))⟩,
    ⟨(some 11), none, (.extract (.t 8) 0)⟩,
    ⟨(some 12), none, (.extract (.t 8) 1)⟩,
    ⟨(some 13), none, (.extract (.t 8) 2)⟩,
    ⟨(some 5), none, (.mv (.t 11))⟩,
    ⟨(some 6), none, (.mv (.t 12))⟩,
    ⟨(some 7), none, (.mv (.t 13))⟩] false) (.seq [0, 5, 6] (.seq [0, 5, 6, 7, 15] (.region [⟨(some 14), none, (.mv (.t 7))⟩,
    ⟨(some 15), none, (.bin .neq .none (.t 14) (.c (.v (.int .i64 0))))⟩] false) (.cond (.t 15) (.seq [2, 3, 4] (.region [⟨(some 16), none, (.mv (.t 7))⟩,
    ⟨(some 2), none, (.mv (.c (.v (.int .i64 0))))⟩,
    ⟨(some 3), none, (.mv (.c (.v (.slice none 0 0))))⟩,
    ⟨(some 4), none, (.mv (.t 16))⟩] false) .ret) .skip)) (.seq [2, 3, 4] (.region [⟨(some 17), none, (.mv (.t 5))⟩,
    ⟨(some 18), none, (.mv (.t 0))⟩,
    ⟨(some 19), none, (.mv (.t 6))⟩,
    ⟨(some 20), none, (.call (.c (.fn 80 [])) [(.t 18), (.t 19)])⟩,
    ⟨(some 2), none, (.mv (.t 17))⟩,
    ⟨(some 3), none, (.mv (.t 20))⟩,
    ⟨(some 4), none, (.mv (.c (.v (.int .i64 0))))⟩] false) .ret))))⟩
/- standby/standbyref03.length -/
def s79 : SFn := 
  ⟨.plain, 1, [(.tmp 2), (.tmp 3), (.tmp 4)], (.seq [0] (.region [⟨(some 2), none, (.mv (.c (.v (.int .i64 0))))⟩,
    ⟨(some 3), none, (.mv (.c (.v (.slice none 0 0))))⟩,
    ⟨(some 4), none, (.mv (.c (.v (.int .i64 0))))⟩] false) (.seq [0, 5, 6] (.region [⟨(some 8), none, (.mv (.t 0))⟩,
    ⟨(some 9), none, (.call (.c (.fn 78 [])) [(.t 8)])⟩,
    ⟨(some 7), none, (.mv (.t 9))⟩,
    ⟨(some 10), none, (.extract (.t 7) 0)⟩,
    ⟨(some 11), none, (.extract (.t 7) 1)⟩,
    ⟨(some 12), none, (.extract (.t 7) 2)⟩,
    ⟨(some 5), none, (.mv (.t 10))⟩,
    ⟨(some 0), none, (.mv (.t 11))⟩,
    ⟨(some 6), none, (.mv (.t 12))⟩] false) (.seq [0, 5, 6] (.seq [0, 5, 6, 18] (.region [⟨(some 13), none, (.mv (.t 6))⟩,
    ⟨(some 14), none, (.bin .eql .none (.t 13) (.c (.v (.int .i64 0))))⟩,
    ⟨(some 15), none, (.mv (.t 14))⟩,
    ⟨(some 16), (some (15, true)), (.mv (.t 5))⟩,
    ⟨(some 17), (some (15, true)), (.bin .gtr .none (.t 16) (.c (.v (.int .i64 65536))))⟩,
    ⟨(some 18), none, (.pick (.t 15) (.t 17) (.c (.v (.bool false))))⟩] false) (.cond (.t 18) (.region [⟨(some 6), none, (.mv (.c (.v (.int .i64 5))))⟩] false) .skip)) (.seq [0, 5] (.seq [0, 5, 6, 20] (.region [⟨(some 19), none, (.mv (.t 6))⟩,
    ⟨(some 20), none, (.bin .neq .none (.t 19) (.c (.v (.int .i64 0))))⟩] false) (.cond (.t 20) (.seq [2, 3, 4] (.region [⟨(some 21), none, (.mv (.t 6))⟩,
    ⟨(some 2), none, (.mv (.c (.v (.int .i64 0))))⟩,
    ⟨(some 3), none, (.mv (.c (.v (.slice none 0 0))))⟩,
    ⟨(some 4), none, (.mv (.t 21))⟩] false) .ret) .skip)) (.seq [2, 3, 4] (.region [⟨(some 22), none, (.mv (.t 5))⟩,
    ⟨(some 23), none, (.mv (.t 0))⟩,
    ⟨(some 2), none, (.mv (.t 22))⟩,
    ⟨(some 3), none, (.mv (.t 23))⟩,
    ⟨(some 4), none, (.mv (.c (.v (.int .i64 0))))⟩] false) .ret)))))⟩
/- standby/standbyref03.rest -/
def s80 : SFn := 
  ⟨.plain, 2, [(.tmp 4)], (.seq [0, 1] (.region [⟨(some 4), none, (.mv (.c (.v (.slice none 0 0))))⟩] false) (.seq [0, 1, 5] (.region [⟨(some 5), none, (.mv (.c (.v (.slice none 0 0))))⟩] false) (.seq [4] (.region [⟨(some 6), none, (.mv (.t 5))⟩,
    ⟨(some 7), none, (.mv (.t 0))⟩,
    ⟨(some 8), none, (.mv (.t 1))⟩,
    ⟨(some 9), none, (.slice 1 (.t 7) (some (.t 8)) none)⟩,
    ⟨(some 10), none, (.append 1 1 (.t 6) (.t 9))⟩,
    ⟨(some 4), none, (.mv (.t 10))⟩] false) .ret)))⟩
/- (*standby/packet.rest).ints$1 -/
def s81 : SFn := 
  ⟨.whole, 2, [], (.seq [0, 1, 2, 3, 4] (.region [⟨(some 6), none, (.load none (.t 0))⟩,
    ⟨(some 7), none, (.nilck (.t 6))⟩,
    ⟨(some 8), none, (.faddr 0 (.t 7))⟩,
    ⟨(some 9), none, (.load none (.t 8))⟩,
    ⟨(some 10), none, (.call (.c (.fn 82 [])) [(.t 9)])⟩,
    ⟨(some 5), none, (.mv (.t 10))⟩,
    ⟨(some 11), none, (.extract (.t 5) 0)⟩,
    ⟨(some 12), none, (.extract (.t 5) 1)⟩,
    ⟨(some 13), none, (.extract (.t 5) 2)⟩,
    ⟨(some 2), none, (.mv (.t 11))⟩,
    ⟨(some 3), none, (.mv (.t 12))⟩,
    ⟨(some 4), none, (.mv (.t 13))⟩] false) (.seq [0, 1, 2, 3] (.region [⟨(some 14), none, (.mv (.t 4))⟩,
    ⟨(some 15), none, (.call (.c (.fn 52 [])) [(.t 14)])⟩] false) (.regionF [⟨(some 16), none, (.load none (.t 1))⟩,
    ⟨(some 17), none, (.load none (.t 0))⟩,
    ⟨(some 18), none, (.mv (.t 2))⟩,
    ⟨(some 19), none, (.mv (.t 3))⟩,
    ⟨(some 20), none, (.nilck (.t 16))⟩,
    ⟨none, none, (.store 1 (.t 20) (.t 18))⟩,
    ⟨(some 21), none, (.nilck (.t 17))⟩,
    ⟨(some 22), none, (.faddr 0 (.t 21))⟩,
    ⟨none, none, (.store 1 (.t 22) (.t 19))⟩])))⟩
/- standby/wire.Ints -/
def s82 : SFn := 
  ⟨.plain, 1, [(.tmp 2), (.tmp 3), (.tmp 4)], (.seq [0] (.region [⟨(some 2), none, (.mv (.c (.v (.slice none 0 0))))⟩,
    ⟨(some 3), none, (.mv (.c (.v (.slice none 0 0))))⟩,
    ⟨(some 4), none, (.mv (.c (.v (.int .i64 0))))⟩] false) (.seq [2, 3, 4] (.region [⟨(some 5), none, (.mv (.t 0))⟩,
    ⟨(some 6), none, (.call (.c (.fn 98 [])) [(.t 5), (.c (.fn 99 []))])⟩,
    ⟨(some 7), none, (.extract (.t 6) 0)⟩,
    ⟨(some 8), none, (.extract (.t 6) 1)⟩,
    ⟨(some 9), none, (.extract (.t 6) 2)⟩,
    ⟨(some 2), none, (.mv (.t 7))⟩,
    ⟨(some 3), none, (.mv (.t 8))⟩,
    ⟨(some 4), none, (.mv (.t 9))⟩] false) .ret))⟩
/- standby/packet.number -/
def s83 : SFn := 
  ⟨.plain, 1, [(.tmp 2)], (.seq [0] (.region [⟨(some 2), none, (.mv (.c (.v (.bool false))))⟩] false) (.seq [2] (.region [⟨(some 3), none, (.mv (.t 0))⟩,
    ⟨(some 4), none, (.bin .geq .none (.t 3) (.c (.v (.int .i64 0))))⟩,
    ⟨(some 5), none, (.mv (.t 4))⟩,
    ⟨(some 6), (some (5, true)), (.mv (.t 0))⟩,
    ⟨(some 7), (some (5, true)), (.bin .leq .none (.t 6) (.c (.v (.int .i64 9007199254740991))))⟩,
    ⟨(some 8), none, (.pick (.t 5) (.t 7) (.c (.v (.bool false))))⟩,
    ⟨(some 2), none, (.mv (.t 8))⟩] false) .ret))⟩
/- slices.ContainsFunc[[]int,int] -/
def s84 : SFn := 
  ⟨.plain, 2, [(.tmp 4)], (.seq [0, 1] (.region [⟨(some 4), none, (.mv (.c (.v (.bool false))))⟩] false) (.seq [4] (.region [⟨(some 5), none, (.mv (.t 0))⟩,
    ⟨(some 6), none, (.mv (.t 1))⟩,
    ⟨(some 7), none, (.call (.c (.fn 101 [])) [(.t 5), (.t 6)])⟩,
    ⟨(some 8), none, (.bin .geq .none (.t 7) (.c (.v (.int .i64 0))))⟩,
    ⟨(some 4), none, (.mv (.t 8))⟩] false) .ret))⟩
/- standby/packet.checkMessage$1 -/
def s85 : SFn := 
  ⟨.plain, 1, [(.tmp 2)], (.seq [0] (.region [⟨(some 2), none, (.mv (.c (.v (.bool false))))⟩] false) (.seq [2] (.region [⟨(some 3), none, (.mv (.t 0))⟩,
    ⟨(some 4), none, (.call (.c (.fn 83 [])) [(.t 3)])⟩,
    ⟨(some 5), none, (.un .not (.t 4))⟩,
    ⟨(some 2), none, (.mv (.t 5))⟩] false) .ret))⟩
/- standby/wire.put[int] -/
def s86b0 : SCode := 
  (.seq [0, 2, 13, 14, 15, 16] (.region [⟨(some 16), none, (.bin .lss .none (.t 15) (.t 14))⟩] false) (.seq [0, 2, 13, 14, 15] (.cond (.t 16) .skip (.exit 0)) (.seq [0, 2, 13, 14, 15] (.block 1 (.seq [0, 2, 8, 13, 14, 15] (.region [⟨(some 17), none, (.iaddr 1 none (.t 13) (.t 15))⟩,
    ⟨(some 18), none, (.load none (.t 17))⟩,
    ⟨(some 8), none, (.mv (.t 18))⟩] false) (.region [⟨(some 19), none, (.mv (.t 2))⟩,
    ⟨(some 20), none, (.mv (.t 0))⟩,
    ⟨(some 21), none, (.mv (.t 8))⟩,
    ⟨(some 22), none, (.call (.t 19) [(.t 20), (.t 21)])⟩,
    ⟨(some 0), none, (.mv (.t 22))⟩] false))) (.region [⟨(some 23), none, (.bin .add .none (.t 15) (.c (.v (.int .i64 1))))⟩,
    ⟨(some 15), none, (.mv (.t 23))⟩] false))))
def s86 : SFn := 
  ⟨.whole, 3, [(.tmp 6)], (.seq [0, 1, 2] (.region [⟨(some 6), none, (.mv (.c (.v (.slice none 0 0))))⟩] false) (.seq [0, 1, 2] (.region [⟨(some 9), none, (.mv (.t 0))⟩,
    ⟨(some 10), none, (.mv (.t 1))⟩,
    ⟨(some 11), none, (.len (.t 10))⟩,
    ⟨(some 12), none, (.call (.c (.fn 67 [])) [(.t 9), (.t 11)])⟩,
    ⟨(some 0), none, (.mv (.t 12))⟩] false) (.seq [0] (.seq [0, 2, 13, 14, 15] (.region [⟨(some 13), none, (.mv (.t 1))⟩,
    ⟨(some 14), none, (.len (.t 13))⟩,
    ⟨(some 15), none, (.mv (.c (.v (.int .i64 0))))⟩] false) (.block 0 (.loop [0, 2, 13, 14, 15] s86b0))) (.seq [6] (.region [⟨(some 24), none, (.mv (.t 0))⟩,
    ⟨(some 6), none, (.mv (.t 24))⟩] false) .ret))))⟩
/- standby/standbyref04.register -/
def s87b0 : SCode := 
  (.seq [0, 5] (.seq [0, 5, 11] (.region [⟨(some 10), none, (.mv (.t 5))⟩,
    ⟨(some 11), none, (.bin .lss .none (.t 10) (.c (.v (.int .i64 8))))⟩] false) (.cond (.t 11) .skip (.exit 0))) (.seq [0, 5] (.block 1 (.seq [0, 5, 16] (.region [⟨(some 14), none, (.mv (.t 0))⟩,
    ⟨(some 15), none, (.bin .rem .none (.t 14) (.c (.v (.int .u32 2))))⟩,
    ⟨(some 16), none, (.bin .eql .none (.t 15) (.c (.v (.int .u32 1))))⟩] false) (.cond (.t 16) (.region [⟨(some 17), none, (.mv (.t 0))⟩,
    ⟨(some 18), none, (.bin .shr .none (.t 17) (.c (.v (.int .u64 1))))⟩,
    ⟨(some 19), none, (.bin .xor .none (.t 18) (.c (.v (.int .u32 2197175160))))⟩,
    ⟨(some 0), none, (.mv (.t 19))⟩] false) (.region [⟨(some 20), none, (.mv (.t 0))⟩,
    ⟨(some 21), none, (.bin .shr .none (.t 20) (.c (.v (.int .u64 1))))⟩,
    ⟨(some 0), none, (.mv (.t 21))⟩] false)))) (.region [⟨(some 12), none, (.mv (.t 5))⟩,
    ⟨(some 13), none, (.bin .add .none (.t 12) (.c (.v (.int .i64 1))))⟩,
    ⟨(some 5), none, (.mv (.t 13))⟩] false)))
def s87 : SFn := 
  ⟨.plain, 2, [(.tmp 4)], (.seq [0, 1] (.region [⟨(some 4), none, (.mv (.c (.v (.int .u32 0))))⟩] false) (.seq [0] (.region [⟨(some 6), none, (.mv (.t 0))⟩,
    ⟨(some 7), none, (.mv (.t 1))⟩,
    ⟨(some 8), none, (.conv .u32 (.t 7))⟩,
    ⟨(some 9), none, (.bin .xor .none (.t 6) (.t 8))⟩,
    ⟨(some 0), none, (.mv (.t 9))⟩] false) (.seq [0] (.seq [0, 5] (.region [⟨(some 5), none, (.mv (.c (.v (.int .i64 0))))⟩] false) (.block 0 (.loop [0, 5] s87b0))) (.seq [4] (.region [⟨(some 22), none, (.mv (.t 0))⟩,
    ⟨(some 4), none, (.mv (.t 22))⟩] false) .ret))))⟩
/- standby/checksum.Update -/
def s88b0 : SCode := 
  (.seq [5, 6, 12, 13, 14, 15] (.region [⟨(some 15), none, (.bin .lss .none (.t 14) (.t 13))⟩] false) (.seq [5, 6, 12, 13, 14] (.cond (.t 15) .skip (.exit 0)) (.seq [5, 6, 12, 13, 14] (.block 1 (.seq [5, 6, 8, 12, 13, 14] (.region [⟨(some 16), none, (.iaddr 1 none (.t 12) (.t 14))⟩,
    ⟨(some 17), none, (.load none (.t 16))⟩,
    ⟨(some 8), none, (.mv (.t 17))⟩] false) (.region [⟨(some 18), none, (.mv (.t 6))⟩,
    ⟨(some 19), none, (.bin .shr .none (.t 18) (.c (.v (.int .u64 8))))⟩,
    ⟨(some 20), none, (.mv (.t 6))⟩,
    ⟨(some 21), none, (.conv .u8 (.t 20))⟩,
    ⟨(some 22), none, (.mv (.t 8))⟩,
    ⟨(some 23), none, (.bin .xor .none (.t 21) (.t 22))⟩,
    ⟨(some 24), none, (.iaddr 1 (some 256) (.t 5) (.t 23))⟩,
    ⟨(some 25), none, (.load none (.t 24))⟩,
    ⟨(some 26), none, (.bin .xor .none (.t 19) (.t 25))⟩,
    ⟨(some 6), none, (.mv (.t 26))⟩] false))) (.region [⟨(some 27), none, (.bin .add .none (.t 14) (.c (.v (.int .i64 1))))⟩,
    ⟨(some 14), none, (.mv (.t 27))⟩] false))))
def s88 : SFn := 
  ⟨.plain, 2, [(.tmp 4)], (.seq [0, 1] (.region [⟨(some 4), none, (.mv (.c (.v (.int .u32 0))))⟩] false) (.seq [0, 1, 5] (.region [⟨(some 9), none, (.call (.c (.fn 102 [])) [])⟩,
    ⟨(some 5), none, (.alloc [(.v (.int .u32 0)), (.v (.int .u32 0)), (.v (.int .u32 0)), (.v (.int .u32 0)), (.v (.int .u32 0)), (.v (.int .u32 0)), (.v (.int .u32 0)), (.v (.int .u32 0)), (.v (.int .u32 0)), (.v (.int .u32 0)), (.v (.int .u32 0)), (.v (.int .u32 0)), (.v (.int .u32 0)), (.v (.int .u32 0)), (.v (.int .u32 0)), (.v (.int .u32 0)), (.v (.int .u32 0)), (.v (.int .u32 0)), (.v (.int .u32 0)), (.v (.int .u32 0)), (.v (.int .u32 0)), (.v (.int .u32 0)), (.v (.int .u32 0)), (.v (.int .u32 0)), (.v (.int .u32 0)), (.v (.int .u32 0)), (.v (.int .u32 0)), (.v (.int .u32 0)), (.v (.int .u32 0)), (.v (.int .u32 0)), (.v (.int .u32 0)), (.v (.int .u32 0)), (.v (.int .u32 0)), (.v (.int .u32 0)), (.v (.int .u32 0)), (.v (.int .u32 0)), (.v (.int .u32 0)), (.v (.int .u32 0)), (.v (.int .u32 0)), (.v (.int .u32 0)), (.v (.int .u32 0)), (.v (.int .u32 0)), (.v (.int .u32 0)), (.v (.int .u32 0)), (.v (.int .u32 0)), (.v (.int .u32 0)), (.v (.int .u32 0)), (.v (.int .u32 0)), (.v (.int .u32 0)), (.v (.int .u32 0)), (.v (.int .u32 0)), (.v (.int .u32 0)), (.v (.int .u32 0)), (.v (.int .u32 0)), (.v (.int .u32 0)), (.v (.int .u32 0)), (.v (.int .u32 0)), (.v (.int .u32 0)), (.v (.int .u32 0)), (.v (.int .u32 0)), (.v (.int .u32 0)), (.v (.int .u32 0)), (.v (.int .u32 0)), (.v (.int .u32 0)), (.v (.int .u32 0)), (.v (.int .u32 0)), (.v (.int .u32 0)), (.v (.int .u32 0)), (.v (.int .u32 0)), (.v (.int .u32 0)), (.v (.int .u32 0)), (.v (.int .u32 0)), (.v (.int .u32 0)), (.v (.int .u32 0)), (.v (.int .u32 0)), (.v (.int .u32 0)), (.v (.int .u32 0)), (.v (.int .u32 0)), (.v (.int .u32 0)), (.v (.int .u32 0)), (.v (.int .u32 0)), (.v (.int .u32 0)), (.v (.int .u32 0)), (.v (.int .u32 0)), (.v (.int .u32 0)), (.v (.int .u32 0)), (.v (.int .u32 0)), (.v (.int .u32 0)), (.v (.int .u32 0)), (.v (.int .u32 0)), (.v (.int .u32 0)), (.v (.int .u32 0)), (.v (.int .u32 0)), (.v (.int .u32 0)), (.v (.int .u32 0)), (.v (.int .u32 0)), (.v (.int .u32 0)), (.v (.int .u32 0)), (.v (.int .u32 0)), (.v (.int .u32 0)), (.v (.int .u32 0)), (.v (.int .u32 0)), (.v (.int .u32 0)), (.v (.int .u32 0)), (.v (.int .u32 0)), (.v (.int .u32 0)), (.v (.int .u32 0)), (.v (.int .u32 0)), (.v (.int .u32 0)), (.v (.int .u32 0)), (.v (.int .u32 0)), (.v (.int .u32 0)), (.v (.int .u32 0)), (.v (.int .u32 0)), (.v (.int .u32 0)), (.v (.int .u32 0)), (.v (.int .u32 0)), (.v (.int .u32 0)), (.v (.int .u32 0)), (.v (.int .u32 0)), (.v (.int .u32 0)), (.v (.int .u32 0)), (.v (.int .u32 0)), (.v (.int .u32 0)), (.v (.int .u32 0)), (.v (.int .u32 0)), (.v (.int .u32 0)), (.v (.int .u32 0)), (.v (.int .u32 0)), (.v (.int .u32 0)), (.v (.int .u32 0)), (.v (.int .u32 0)), (.v (.int .u32 0)), (.v (.int .u32 0)), (.v (.int .u32 0)), (.v (.int .u32 0)), (.v (.int .u32 0)), (.v (.int .u32 0)), (.v (.int .u32 0)), (.v (.int .u32 0)), (.v (.int .u32 0)), (.v (.int .u32 0)), (.v (.int .u32 0)), (.v (.int .u32 0)), (.v (.int .u32 0)), (.v (.int .u32 0)), (.v (.int .u32 0)), (.v (.int .u32 0)), (.v (.int .u32 0)), (.v (.int .u32 0)), (.v (.int .u32 0)), (.v (.int .u32 0)), (.v (.int .u32 0)), (.v (.int .u32 0)), (.v (.int .u32 0)), (.v (.int .u32 0)), (.v (.int .u32 0)), (.v (.int .u32 0)), (.v (.int .u32 0)), (.v (.int .u32 0)), (.v (.int .u32 0)), (.v (.int .u32 0)), (.v (.int .u32 0)), (.v (.int .u32 0)), (.v (.int .u32 0)), (.v (.int .u32 0)), (.v (.int .u32 0)), (.v (.int .u32 0)), (.v (.int .u32 0)), (.v (.int .u32 0)), (.v (.int .u32 0)), (.v (.int .u32 0)), (.v (.int .u32 0)), (.v (.int .u32 0)), (.v (.int .u32 0)), (.v (.int .u32 0)), (.v (.int .u32 0)), (.v (.int .u32 0)), (.v (.int .u32 0)), (.v (.int .u32 0)), (.v (.int .u32 0)), (.v (.int .u32 0)), (.v (.int .u32 0)), (.v (.int .u32 0)), (.v (.int .u32 0)), (.v (.int .u32 0)), (.v (.int .u32 0)), (.v (.int .u32 0)), (.v (.int .u32 0)), (.v (.int .u32 0)), (.v (.int .u32 0)), (.v (.int .u32 0)), (.v (.int .u32 0)), (.v (.int .u32 0)), (.v (.int .u32 0)), (.v (.int .u32 0)), (.v (.int .u32 0)), (.v (.int .u32 0)), (.v (.int .u32 0)), (.v (.int .u32 0)), (.v (.int .u32 0)), (.v (.int .u32 0)), (.v (.int .u32 0)), (.v (.int .u32 0)), (.v (.int .u32 0)), (.v (.int .u32 0)), (.v (.int .u32 0)), (.v (.int .u32 0)), (.v (.int .u32 0)), (.v (.int .u32 0)), (.v (.int .u32 0)), (.v (.int .u32 0)), (.v (.int .u32 0)), (.v (.int .u32 0)), (.v (.int .u32 0)), (.v (.int .u32 0)), (.v (.int .u32 0)), (.v (.int .u32 0)), (.v (.int .u32 0)), (.v (.int .u32 0)), (.v (.int .u32 0)), (.v (.int .u32 0)), (.v (.int .u32 0)), (.v (.int .u32 0)), (.v (.int .u32 0)), (.v (.int .u32 0)), (.v (.int .u32 0)), (.v (.int .u32 0)), (.v (.int .u32 0)), (.v (.int .u32 0)), (.v (.int .u32 0)), (.v (.int .u32 0)), (.v (.int .u32 0)), (.v (.int .u32 0)), (.v (.int .u32 0)), (.v (.int .u32 0)), (.v (.int .u32 0)), (.v (.int .u32 0)), (.v (.int .u32 0)), (.v (.int .u32 0)), (.v (.int .u32 0)), (.v (.int .u32 0)), (.v (.int .u32 0)), (.v (.int .u32 0)), (.v (.int .u32 0)), (.v (.int .u32 0)), (.v (.int .u32 0)), (.v (.int .u32 0)), (.v (.int .u32 0)), (.v (.int .u32 0)), (.v (.int .u32 0)), (.v (.int .u32 0)), (.v (.int .u32 0)), (.v (.int .u32 0)), (.v (.int .u32 0)), (.v (.int .u32 0))])⟩,
    ⟨none, none, (.store 256 (.t 5) (.t 9))⟩] false) (.seq [1, 5, 6] (.region [⟨(some 10), none, (.mv (.t 0))⟩,
    ⟨(some 11), none, (.un .xor (.t 10))⟩,
    ⟨(some 6), none, (.mv (.t 11))⟩] false) (.seq [6] (.seq [5, 6, 12, 13, 14] (.region [⟨(some 12), none, (.mv (.t 1))⟩,
    ⟨(some 13), none, (.len (.t 12))⟩,
    ⟨(some 14), none, (.mv (.c (.v (.int .i64 0))))⟩] false) (.block 0 (.loop [5, 6, 12, 13, 14] s88b0))) (.seq [4] (.region [⟨(some 28), none, (.mv (.t 6))⟩,
    ⟨(some 29), none, (.un .xor (.t 28))⟩,
    ⟨(some 4), none, (.mv (.t 29))⟩] false) .ret)))))⟩
/- standby/wire.read[int] -/
def s89 : SFn := 
  ⟨.plain, 2, [(.tmp 4), (.tmp 5), (.tmp 6)], (.seq [0, 1] (.region [⟨(some 4), none, (.mv (.c (.v (.int .i64 0))))⟩,
    ⟨(some 5), none, (.mv (.c (.v (.slice none 0 0))))⟩,
    ⟨(some 6), none, (.mv (.c (.v (.int .i64 0))))⟩] false) (.seq [1, 7] (.region [⟨(some 11), none, (.mv (.t 0))⟩,
    ⟨(some 12), none, (.build [(.v (.slice none 0 0))] [(0, (1, (.t 11)))])⟩,
    ⟨(some 13), none, (.box (.t 12))⟩,
    ⟨(some 7), none, (.mv (.t 13))⟩] false) (.seq [7, 8, 9] (.region [⟨(some 15), none, (.mv (.t 1))⟩,
    ⟨(some 16), none, (.mv (.t 7))⟩,
    ⟨(some 17), none, (.call (.t 15) [(.t 16)])⟩,
    ⟨(some 14), none, (.mv (.t 17))⟩,
    ⟨(some 18), none, (.extract (.t 14) 0)⟩,
    ⟨(some 19), none, (.extract (.t 14) 1)⟩,
    ⟨(some 8), none, (.mv (.t 18))⟩,
    ⟨(some 9), none, (.mv (.t 19))⟩] false) (.seq [7, 8] (.seq [7, 8, 9, 21] (.region [⟨(some 20), none, (.mv (.t 9))⟩,
    ⟨(some 21), none, (.bin .neq .none (.t 20) (.c (.v (.int .i64 0))))⟩] false) (.cond (.t 21) (.seq [9, 10] (.region [⟨(some 10), none, (.mv (.c (.v (.int .i64 0))))⟩] false) (.seq [4, 5, 6] (.region [⟨(some 22), none, (.mv (.t 10))⟩,
    ⟨(some 23), none, (.mv (.t 9))⟩,
    ⟨(some 4), none, (.mv (.t 22))⟩,
    ⟨(some 5), none, (.mv (.c (.v (.slice none 0 0))))⟩,
    ⟨(some 6), none, (.mv (.t 23))⟩] false) .ret)) .skip)) (.seq [4, 5, 6] (.region [⟨(some 24), none, (.mv (.t 8))⟩,
    ⟨(some 25), none, (.mv (.t 7))⟩,
    ⟨(some 26), none, (.nilck (.t 25))⟩,
    ⟨(some 27), none, (.faddr 0 (.t 26))⟩,
    ⟨(some 28), none, (.load none (.t 27))⟩,
    ⟨(some 29), none, (.call (.c (.fn 31 [])) [(.t 28)])⟩,
    ⟨(some 4), none, (.mv (.t 24))⟩,
    ⟨(some 5), none, (.mv (.t 29))⟩,
    ⟨(some 6), none, (.mv (.c (.v (.int .i64 0))))⟩] false) .ret)))))⟩
/- (*standby/wire.cursor).number -/
def s90b0 : SCode := 
  (.seq [0, 4, 7, 8] (.region [⟨(some 8), none, (.bin .lss .none (.t 7) (.c (.v (.int .i64 8))))⟩] false) (.seq [0, 4, 7] (.cond (.t 8) .skip (.exit 0)) (.seq [0, 4, 7] (.block 1 (.seq [0, 4, 5, 7] (.region [⟨(some 9), none, (.mv (.t 7))⟩,
    ⟨(some 5), none, (.mv (.t 9))⟩] false) (.seq [0, 4, 5, 7] (.seq [0, 4, 5, 7, 16] (.region [⟨(some 10), none, (.mv (.t 5))⟩,
    ⟨(some 11), none, (.mv (.t 0))⟩,
    ⟨(some 12), none, (.nilck (.t 11))⟩,
    ⟨(some 13), none, (.faddr 0 (.t 12))⟩,
    ⟨(some 14), none, (.load none (.t 13))⟩,
    ⟨(some 15), none, (.len (.t 14))⟩,
    ⟨(some 16), none, (.bin .geq .none (.t 10) (.t 15))⟩] false) (.cond (.t 16) (.seq [2, 3] (.region [⟨(some 2), none, (.mv (.c (.v (.int .i64 0))))⟩,
    ⟨(some 3), none, (.mv (.c (.v (.int .i64 10))))⟩] false) .ret) .skip)) (.seq [0, 4, 5, 6, 7] (.region [⟨(some 17), none, (.mv (.t 0))⟩,
    ⟨(some 18), none, (.nilck (.t 17))⟩,
    ⟨(some 19), none, (.faddr 0 (.t 18))⟩,
    ⟨(some 20), none, (.load none (.t 19))⟩,
    ⟨(some 21), none, (.mv (.t 5))⟩,
    ⟨(some 22), none, (.iaddr 1 none (.t 20) (.t 21))⟩,
    ⟨(some 23), none, (.load none (.t 22))⟩,
    ⟨(some 6), none, (.mv (.t 23))⟩] false) (.seq [0, 4, 5, 6, 7] (.region [⟨(some 24), none, (.mv (.t 4))⟩,
    ⟨(some 25), none, (.mv (.t 6))⟩,
    ⟨(some 26), none, (.bin .and .none (.t 25) (.c (.v (.int .u8 127))))⟩,
    ⟨(some 27), none, (.conv .i64 (.t 26))⟩,
    ⟨(some 28), none, (.mv (.t 5))⟩,
    ⟨(some 29), none, (.bin .mul .none (.c (.v (.int .i64 7))) (.t 28))⟩,
    ⟨(some 30), none, (.bin .shl .none (.t 27) (.t 29))⟩,
    ⟨(some 31), none, (.bin .or .none (.t 24) (.t 30))⟩,
    ⟨(some 4), none, (.mv (.t 31))⟩] false) (.seq [0, 4, 5, 6] (.seq [0, 4, 5, 6, 7, 34] (.region [⟨(some 32), none, (.mv (.t 6))⟩,
    ⟨(some 33), none, (.bin .and .none (.t 32) (.c (.v (.int .u8 128))))⟩,
    ⟨(some 34), none, (.bin .neq .none (.t 33) (.c (.v (.int .u8 0))))⟩] false) (.cond (.t 34) (.exit 1) .skip)) (.seq [0, 4, 5] (.seq [0, 4, 5, 44] (.region [⟨(some 35), none, (.mv (.t 6))⟩,
    ⟨(some 36), none, (.bin .eql .none (.t 35) (.c (.v (.int .u8 0))))⟩,
    ⟨(some 37), none, (.mv (.t 36))⟩,
    ⟨(some 38), (some (37, true)), (.mv (.t 5))⟩,
    ⟨(some 39), (some (37, true)), (.bin .gtr .none (.t 38) (.c (.v (.int .i64 0))))⟩,
    ⟨(some 40), none, (.pick (.t 37) (.t 39) (.c (.v (.bool false))))⟩,
    ⟨(some 41), none, (.mv (.t 40))⟩,
    ⟨(some 42), (some (41, false)), (.mv (.t 4))⟩,
    ⟨(some 43), (some (41, false)), (.bin .gtr .none (.t 42) (.c (.v (.int .i64 9007199254740991))))⟩,
    ⟨(some 44), none, (.pick (.t 41) (.c (.v (.bool true))) (.t 43))⟩] false) (.cond (.t 44) (.seq [2, 3] (.region [⟨(some 2), none, (.mv (.c (.v (.int .i64 0))))⟩,
    ⟨(some 3), none, (.mv (.c (.v (.int .i64 3))))⟩] false) .ret) .skip)) (.seq [4] (.region [⟨(some 45), none, (.mv (.t 0))⟩,
    ⟨(some 46), none, (.mv (.t 0))⟩,
    ⟨(some 47), none, (.nilck (.t 46))⟩,
    ⟨(some 48), none, (.faddr 0 (.t 47))⟩,
    ⟨(some 49), none, (.load none (.t 48))⟩,
    ⟨(some 50), none, (.mv (.t 5))⟩,
    ⟨(some 51), none, (.bin .add .none (.t 50) (.c (.v (.int .i64 1))))⟩,
    ⟨(some 52), none, (.slice 1 (.t 49) (some (.t 51)) none)⟩,
    ⟨(some 53), none, (.nilck (.t 45))⟩,
    ⟨(some 54), none, (.faddr 0 (.t 53))⟩,
    ⟨none, none, (.store 1 (.t 54) (.t 52))⟩] false) (.seq [2, 3] (.region [⟨(some 55), none, (.mv (.t 4))⟩,
    ⟨(some 2), none, (.mv (.t 55))⟩,
    ⟨(some 3), none, (.mv (.c (.v (.int .i64 0))))⟩] false) .ret))))))))) (.region [⟨(some 56), none, (.bin .add .none (.t 7) (.c (.v (.int .i64 1))))⟩,
    ⟨(some 7), none, (.mv (.t 56))⟩] false))))
def s90 : SFn := 
  ⟨.whole, 1, [(.tmp 2), (.tmp 3)], (.seq [0] (.region [⟨(some 2), none, (.mv (.c (.v (.int .i64 0))))⟩,
    ⟨(some 3), none, (.mv (.c (.v (.int .i64 0))))⟩] false) (.seq [0, 4] (.region [⟨(some 4), none, (.mv (.c (.v (.int .i64 0))))⟩] false) (.seq [] (.seq [0, 4, 7] (.region [⟨(some 7), none, (.mv (.c (.v (.int .i64 0))))⟩] false) (.block 0 (.loop [0, 4, 7] s90b0))) (.seq [2, 3] (.region [⟨(some 2), none, (.mv (.c (.v (.int .i64 0))))⟩,
    ⟨(some 3), none, (.mv (.c (.v (.int .i64 3))))⟩] false) .ret))))⟩
/- standby/wire.read[[]standby/api.Extent] -/
def s91 : SFn := 
  ⟨.plain, 2, [(.tmp 4), (.tmp 5), (.tmp 6)], (.seq [0, 1] (.region [⟨(some 4), none, (.mv (.c (.v (.slice none 0 0))))⟩,
    ⟨(some 5), none, (.mv (.c (.v (.slice none 0 0))))⟩,
    ⟨(some 6), none, (.mv (.c (.v (.int .i64 0))))⟩] false) (.seq [1, 7] (.region [⟨(some 11), none, (.mv (.t 0))⟩,
    ⟨(some 12), none, (.build [(.v (.slice none 0 0))] [(0, (1, (.t 11)))])⟩,
    ⟨(some 13), none, (.box (.t 12))⟩,
    ⟨(some 7), none, (.mv (.t 13))⟩] false) (.seq [7, 8, 9] (.region [⟨(some 15), none, (.mv (.t 1))⟩,
    ⟨(some 16), none, (.mv (.t 7))⟩,
    ⟨(some 17), none, (.call (.t 15) [(.t 16)])⟩,
    ⟨(some 14), none, (.mv (.t 17))⟩,
    ⟨(some 18), none, (.extract (.t 14) 0)⟩,
    ⟨(some 19), none, (.extract (.t 14) 1)⟩,
    ⟨(some 8), none, (.mv (.t 18))⟩,
    ⟨(some 9), none, (.mv (.t 19))⟩] false) (.seq [7, 8] (.seq [7, 8, 9, 21] (.region [⟨(some 20), none, (.mv (.t 9))⟩,
    ⟨(some 21), none, (.bin .neq .none (.t 20) (.c (.v (.int .i64 0))))⟩] false) (.cond (.t 21) (.seq [9, 10] (.region [⟨(some 10), none, (.mv (.c (.v (.slice none 0 0))))⟩] false) (.seq [4, 5, 6] (.region [⟨(some 22), none, (.mv (.t 10))⟩,
    ⟨(some 23), none, (.mv (.t 9))⟩,
    ⟨(some 4), none, (.mv (.t 22))⟩,
    ⟨(some 5), none, (.mv (.c (.v (.slice none 0 0))))⟩,
    ⟨(some 6), none, (.mv (.t 23))⟩] false) .ret)) .skip)) (.seq [4, 5, 6] (.region [⟨(some 24), none, (.mv (.t 8))⟩,
    ⟨(some 25), none, (.mv (.t 7))⟩,
    ⟨(some 26), none, (.nilck (.t 25))⟩,
    ⟨(some 27), none, (.faddr 0 (.t 26))⟩,
    ⟨(some 28), none, (.load none (.t 27))⟩,
    ⟨(some 29), none, (.call (.c (.fn 31 [])) [(.t 28)])⟩,
    ⟨(some 4), none, (.mv (.t 24))⟩,
    ⟨(some 5), none, (.mv (.t 29))⟩,
    ⟨(some 6), none, (.mv (.c (.v (.int .i64 0))))⟩] false) .ret)))))⟩
/- standby/wire.Extents$1 -/
def s92 : SFn := 
  ⟨.whole, 1, [(.tmp 2), (.tmp 3)], (.seq [0] (.region [⟨(some 2), none, (.mv (.c (.v (.slice none 0 0))))⟩,
    ⟨(some 3), none, (.mv (.c (.v (.int .i64 0))))⟩] false) (.seq [2, 3] (.region [⟨(some 4), none, (.mv (.t 0))⟩,
    ⟨(some 5), none, (.call (.c (.fn 93 [])) [(.t 4), (.c (.fn 94 []))])⟩,
    ⟨(some 6), none, (.extract (.t 5) 0)⟩,
    ⟨(some 7), none, (.extract (.t 5) 1)⟩,
    ⟨(some 2), none, (.mv (.t 6))⟩,
    ⟨(some 3), none, (.mv (.t 7))⟩] false) .ret))⟩
/- standby/wire.list[standby/api.Extent] -/
def s93b0 : SCode := 
  (.seq [0, 1, 8, 19, 20, 21] (.region [⟨(some 21), none, (.bin .lss .none (.t 20) (.t 19))⟩] false) (.seq [0, 1, 8, 19, 20] (.cond (.t 21) .skip (.exit 0)) (.seq [0, 1, 8, 19, 20] (.block 1 (.seq [0, 1, 8, 9, 10, 19, 20] (.region [⟨(some 23), none, (.mv (.t 1))⟩,
    ⟨(some 24), none, (.mv (.t 0))⟩,
    ⟨(some 25), none, (.call (.t 23) [(.t 24)])⟩,
    ⟨(some 22), none, (.mv (.t 25))⟩,
    ⟨(some 26), none, (.extract (.t 22) 0)⟩,
    ⟨(some 27), none, (.extract (.t 22) 1)⟩,
    ⟨(some 9), none, (.alloc [(.v (.int .i64 0)), (.v (.int .i64 0))])⟩,
    ⟨none, none, (.store 2 (.t 9) (.t 26))⟩,
    ⟨(some 10), none, (.mv (.t 27))⟩] false) (.seq [0, 1, 8, 9, 19, 20] (.seq [0, 1, 8, 9, 10, 19, 20, 29] (.region [⟨(some 28), none, (.mv (.t 10))⟩,
    ⟨(some 29), none, (.bin .neq .none (.t 28) (.c (.v (.int .i64 0))))⟩] false) (.cond (.t 29) (.seq [4, 5] (.region [⟨(some 30), none, (.mv (.t 10))⟩,
    ⟨(some 4), none, (.mv (.c (.v (.slice none 0 0))))⟩,
    ⟨(some 5), none, (.mv (.t 30))⟩] false) .ret) .skip)) (.region [⟨(some 31), none, (.mv (.t 8))⟩,
    ⟨(some 32), none, (.load (some 2) (.t 9))⟩,
    ⟨(some 33), none, (.bslice [(.v (.int .i64 0)), (.v (.int .i64 0))] 1 [(0, (2, (.t 32)))])⟩,
    ⟨(some 34), none, (.append 2 16 (.t 31) (.t 33))⟩,
    ⟨(some 8), none, (.mv (.t 34))⟩] false)))) (.region [⟨(some 35), none, (.bin .add .none (.t 20) (.c (.v (.int .i64 1))))⟩,
    ⟨(some 20), none, (.mv (.t 35))⟩] false))))
def s93 : SFn := 
  ⟨.whole, 2, [(.tmp 4), (.tmp 5)], (.seq [0, 1] (.region [⟨(some 4), none, (.mv (.c (.v (.slice none 0 0))))⟩,
    ⟨(some 5), none, (.mv (.c (.v (.int .i64 0))))⟩] false) (.seq [0, 1, 6, 7] (.region [⟨(some 12), none, (.mv (.t 0))⟩,
    ⟨(some 13), none, (.call (.c (.fn 103 [])) [(.t 12)])⟩,
    ⟨(some 11), none, (.mv (.t 13))⟩,
    ⟨(some 14), none, (.extract (.t 11) 0)⟩,
    ⟨(some 15), none, (.extract (.t 11) 1)⟩,
    ⟨(some 6), none, (.mv (.t 14))⟩,
    ⟨(some 7), none, (.mv (.t 15))⟩] false) (.seq [0, 1, 6] (.seq [0, 1, 6, 7, 17] (.region [⟨(some 16), none, (.mv (.t 7))⟩,
    ⟨(some 17), none, (.bin .neq .none (.t 16) (.c (.v (.int .i64 0))))⟩] false) (.cond (.t 17) (.seq [4, 5] (.region [⟨(some 18), none, (.mv (.t 7))⟩,
    ⟨(some 4), none, (.mv (.c (.v (.slice none 0 0))))⟩,
    ⟨(some 5), none, (.mv (.t 18))⟩] false) .ret) .skip)) (.seq [0, 1, 6, 8] (.region [⟨(some 8), none, (.mv (.c (.v (.slice none 0 0))))⟩] false) (.seq [8] (.seq [0, 1, 8, 19, 20] (.region [⟨(some 19), none, (.mv (.t 6))⟩,
    ⟨(some 20), none, (.mv (.c (.v (.int .i64 0))))⟩] false) (.block 0 (.loop [0, 1, 8, 19, 20] s93b0))) (.seq [4, 5] (.region [⟨(some 36), none, (.mv (.t 8))⟩,
    ⟨(some 4), none, (.mv (.t 36))⟩,
    ⟨(some 5), none, (.mv (.c (.v (.int .i64 0))))⟩] false) .ret))))))⟩
/- (*standby/wire.cursor).extent -/
def s94 : SFn := 
  ⟨.whole, 1, [(.cell 2 (some 2)), (.tmp 3)], (.seq [0, 2] (.region [⟨(some 2), none, (.alloc [(.v (.int .i64 0)), (.v (.int .i64 0))])⟩,
    ⟨(some 3), none, (.mv (.c (.v (.int .i64 0))))⟩] false) (.seq [2, 4, 5, 6] (.region [⟨(some 8), none, (.mv (.t 0))⟩,
    ⟨(some 9), none, (.call (.c (.fn 104 [])) [(.t 8)])⟩,
    ⟨(some 7), none, (.mv (.t 9))⟩,
    ⟨(some 10), none, (.extract (.t 7) 0)⟩,
    ⟨(some 11), none, (.extract (.t 7) 1)⟩,
    ⟨(some 12), none, (.extract (.t 7) 2)⟩,
    ⟨(some 4), none, (.mv (.t 10))⟩,
    ⟨(some 5), none, (.mv (.t 11))⟩,
    ⟨(some 6), none, (.mv (.t 12))⟩] false) (.seq [2, 3] (.region [⟨(some 13), none, (.mv (.t 4))⟩,
    ⟨(some 14), none, (.mv (.t 5))⟩,
    ⟨(some 15), none, (.build [(.v (.int .i64 0)), (.v (.int .i64 0))] [(0, (1, (.t 13))), (1, (1, (.t 14)))])⟩,
    ⟨(some 16), none, (.mv (.t 6))⟩,
    ⟨none, none, (.store 2 (.t 2) (.t 15))⟩,
    ⟨(some 3), none, (.mv (.t 16))⟩] false) .ret)))⟩
/- standby/wire.read[[]byte] -/
def s95 : SFn := 
  ⟨.plain, 2, [(.tmp 4), (.tmp 5), (.tmp 6)], (.seq [0, 1] (.region [⟨(some 4), none, (.mv (.c (.v (.slice none 0 0))))⟩,
    ⟨(some 5), none, (.mv (.c (.v (.slice none 0 0))))⟩,
    ⟨(some 6), none, (.mv (.c (.v (.int .i64 0))))⟩] false) (.seq [1, 7] (.region [⟨(some 11), none, (.mv (.t 0))⟩,
    ⟨(some 12), none, (.build [(.v (.slice none 0 0))] [(0, (1, (.t 11)))])⟩,
    ⟨(some 13), none, (.box (.t 12))⟩,
    ⟨(some 7), none, (.mv (.t 13))⟩] false) (.seq [7, 8, 9] (.region [⟨(some 15), none, (.mv (.t 1))⟩,
    ⟨(some 16), none, (.mv (.t 7))⟩,
    ⟨(some 17), none, (.call (.t 15) [(.t 16)])⟩,
    ⟨(some 14), none, (.mv (.t 17))⟩,
    ⟨(some 18), none, (.extract (.t 14) 0)⟩,
    ⟨(some 19), none, (.extract (.t 14) 1)⟩,
    ⟨(some 8), none, (.mv (.t 18))⟩,
    ⟨(some 9), none, (.mv (.t 19))⟩] false) (.seq [7, 8] (.seq [7, 8, 9, 21] (.region [⟨(some 20), none, (.mv (.t 9))⟩,
    ⟨(some 21), none, (.bin .neq .none (.t 20) (.c (.v (.int .i64 0))))⟩] false) (.cond (.t 21) (.seq [9, 10] (.region [⟨(some 10), none, (.mv (.c (.v (.slice none 0 0))))⟩] false) (.seq [4, 5, 6] (.region [⟨(some 22), none, (.mv (.t 10))⟩,
    ⟨(some 23), none, (.mv (.t 9))⟩,
    ⟨(some 4), none, (.mv (.t 22))⟩,
    ⟨(some 5), none, (.mv (.c (.v (.slice none 0 0))))⟩,
    ⟨(some 6), none, (.mv (.t 23))⟩] false) .ret)) .skip)) (.seq [4, 5, 6] (.region [⟨(some 24), none, (.mv (.t 8))⟩,
    ⟨(some 25), none, (.mv (.t 7))⟩,
    ⟨(some 26), none, (.nilck (.t 25))⟩,
    ⟨(some 27), none, (.faddr 0 (.t 26))⟩,
    ⟨(some 28), none, (.load none (.t 27))⟩,
    ⟨(some 29), none, (.call (.c (.fn 31 [])) [(.t 28)])⟩,
    ⟨(some 4), none, (.mv (.t 24))⟩,
    ⟨(some 5), none, (.mv (.t 29))⟩,
    ⟨(some 6), none, (.mv (.c (.v (.int .i64 0))))⟩] false) .ret)))))⟩
/- (*standby/wire.cursor).text -/
def s96 : SFn := 
  ⟨.whole, 1, [(.tmp 2), (.tmp 3)], (.seq [0] (.region [⟨(some 2), none, (.mv (.c (.v (.slice none 0 0))))⟩,
    ⟨(some 3), none, (.mv (.c (.v (.int .i64 0))))⟩] false) (.seq [0, 4, 5] (.region [⟨(some 8), none, (.mv (.t 0))⟩,
    ⟨(some 9), none, (.call (.c (.fn 103 [])) [(.t 8)])⟩,
    ⟨(some 7), none, (.mv (.t 9))⟩,
    ⟨(some 10), none, (.extract (.t 7) 0)⟩,
    ⟨(some 11), none, (.extract (.t 7) 1)⟩,
    ⟨(some 4), none, (.mv (.t 10))⟩,
    ⟨(some 5), none, (.mv (.t 11))⟩] false) (.seq [0, 4] (.seq [0, 4, 5, 13] (.region [⟨(some 12), none, (.mv (.t 5))⟩,
    ⟨(some 13), none, (.bin .neq .none (.t 12) (.c (.v (.int .i64 0))))⟩] false) (.cond (.t 13) (.seq [2, 3] (.region [⟨(some 14), none, (.mv (.t 5))⟩,
    ⟨(some 2), none, (.mv (.c (.v (.slice none 0 0))))⟩,
    ⟨(some 3), none, (.mv (.t 14))⟩] false) .ret) .skip)) (.seq [5, 6] (.region [⟨(some 16), none, (.mv (.t 0))⟩,
    ⟨(some 17), none, (.mv (.t 4))⟩,
    ⟨(some 18), none, (.call (.c (.fn 105 [])) [(.t 16), (.t 17)])⟩,
    ⟨(some 15), none, (.mv (.t 18))⟩,
    ⟨(some 19), none, (.extract (.t 15) 0)⟩,
    ⟨(some 20), none, (.extract (.t 15) 1)⟩,
    ⟨(some 6), none, (.mv (.t 19))⟩,
    ⟨(some 5), none, (.mv (.t 20))⟩] false) (.seq [2, 3] (.region [⟨(some 21), none, (.mv (.t 6))⟩,
    ⟨(some 22), none, (.call (.c (.fn 31 [])) [(.t 21)])⟩,
    ⟨(some 23), none, (.mv (.t 5))⟩,
    ⟨(some 2), none, (.mv (.t 22))⟩,
    ⟨(some 3), none, (.mv (.t 23))⟩] false) .ret)))))⟩
/- standby/standbyref03.number -/
def s97b0 : SCode := 
  (.seq [0, 5, 6, 7] (.seq [0, 5, 6, 7, 10] (.region [⟨(some 9), none, (.mv (.t 7))⟩,
    ⟨(some 10), none, (.bin .lss .none (.t 9) (.c (.v (.int .i64 8))))⟩] false) (.cond (.t 10) .skip (.exit 0))) (.seq [0, 5, 6, 7] (.block 1 (.seq [0, 5, 6, 7] (.seq [0, 5, 6, 7, 16] (.region [⟨(some 13), none, (.mv (.t 7))⟩,
    ⟨(some 14), none, (.mv (.t 0))⟩,
    ⟨(some 15), none, (.len (.t 14))⟩,
    ⟨(some 16), none, (.bin .geq .none (.t 13) (.t 15))⟩] false) (.cond (.t 16) (.seq [2, 3, 4] (.region [⟨(some 2), none, (.mv (.c (.v (.int .i64 0))))⟩,
    ⟨(some 3), none, (.mv (.c (.v (.int .i64 0))))⟩,
    ⟨(some 4), none, (.mv (.c (.v (.int .i64 10))))⟩] false) .ret) .skip)) (.seq [0, 5, 6, 7, 8] (.region [⟨(some 17), none, (.mv (.t 0))⟩,
    ⟨(some 18), none, (.mv (.t 7))⟩,
    ⟨(some 19), none, (.iaddr 1 none (.t 17) (.t 18))⟩,
    ⟨(some 20), none, (.load none (.t 19))⟩,
    ⟨(some 21), none, (.conv .i64 (.t 20))⟩,
    ⟨(some 8), none, (.mv (.t 21))⟩] false) (.seq [0, 5, 6, 7, 8] (.region [⟨(some 22), none, (.mv (.t 5))⟩,
    ⟨(some 23), none, (.mv (.t 8))⟩,
    ⟨(some 24), none, (.bin .rem .none (.t 23) (.c (.v (.int .i64 128))))⟩,
    ⟨(some 25), none, (.mv (.t 6))⟩,
    ⟨(some 26), none, (.bin .mul .none (.t 24) (.t 25))⟩,
    ⟨(some 27), none, (.bin .add .none (.t 22) (.t 26))⟩,
    ⟨(some 5), none, (.mv (.t 27))⟩] false) (.seq [0, 5, 6, 7] (.seq [0, 5, 6, 7, 8, 29] (.region [⟨(some 28), none, (.mv (.t 8))⟩,
    ⟨(some 29), none, (.bin .lss .none (.t 28) (.c (.v (.int .i64 128))))⟩] false) (.cond (.t 29) (.seq [5, 7] (.seq [5, 7, 39] (.region [⟨(some 30), none, (.mv (.t 8))⟩,
    ⟨(some 31), none, (.bin .eql .none (.t 30) (.c (.v (.int .i64 0))))⟩,
    ⟨(some 32), none, (.mv (.t 31))⟩,
    ⟨(some 33), (some (32, true)), (.mv (.t 7))⟩,
    ⟨(some 34), (some (32, true)), (.bin .gtr .none (.t 33) (.c (.v (.int .i64 0))))⟩,
    ⟨(some 35), none, (.pick (.t 32) (.t 34) (.c (.v (.bool false))))⟩,
    ⟨(some 36), none, (.mv (.t 35))⟩,
    ⟨(some 37), (some (36, false)), (.mv (.t 5))⟩,
    ⟨(some 38), (some (36, false)), (.bin .gtr .none (.t 37) (.c (.v (.int .i64 9007199254740991))))⟩,
    ⟨(some 39), none, (.pick (.t 36) (.c (.v (.bool true))) (.t 38))⟩] false) (.cond (.t 39) (.seq [2, 3, 4] (.region [⟨(some 2), none, (.mv (.c (.v (.int .i64 0))))⟩,
    ⟨(some 3), none, (.mv (.c (.v (.int .i64 0))))⟩,
    ⟨(some 4), none, (.mv (.c (.v (.int .i64 3))))⟩] false) .ret) .skip)) (.seq [2, 3, 4] (.region [⟨(some 40), none, (.mv (.t 5))⟩,
    ⟨(some 41), none, (.mv (.t 7))⟩,
    ⟨(some 42), none, (.bin .add .none (.t 41) (.c (.v (.int .i64 1))))⟩,
    ⟨(some 2), none, (.mv (.t 40))⟩,
    ⟨(some 3), none, (.mv (.t 42))⟩,
    ⟨(some 4), none, (.mv (.c (.v (.int .i64 0))))⟩] false) .ret)) .skip)) (.region [⟨(some 43), none, (.mv (.t 6))⟩,
    ⟨(some 44), none, (.bin .mul .none (.t 43) (.c (.v (.int .i64 128))))⟩,
    ⟨(some 6), none, (.mv (.t 44))⟩] false)))))) (.region [⟨(some 11), none, (.mv (.t 7))⟩,
    ⟨(some 12), none, (.bin .add .none (.t 11) (.c (.v (.int .i64 1))))⟩,
    ⟨(some 7), none, (.mv (.t 12))⟩] false)))
def s97 : SFn := 
  ⟨.plain, 1, [(.tmp 2), (.tmp 3), (.tmp 4)], (.seq [0] (.region [⟨(some 2), none, (.mv (.c (.v (.int .i64 0))))⟩,
    ⟨(some 3), none, (.mv (.c (.v (.int .i64 0))))⟩,
    ⟨(some 4), none, (.mv (.c (.v (.int .i64 0))))⟩] false) (.seq [0, 5, 6] (.region [⟨(some 5), none, (.mv (.c (.v (.int .i64 0))))⟩,
    ⟨(some 6), none, (.mv (.c (.v (.int .i64 1))))⟩] false) (.seq [] (.seq [0, 5, 6, 7] (.region [⟨(some 7), none, (.mv (.c (.v (.int .i64 0))))⟩] false) (.block 0 (.loop [0, 5, 6, 7] s97b0))) (.seq [2, 3, 4] (.region [⟨(some 2), none, (.mv (.c (.v (.int .i64 0))))⟩,
    ⟨(some 3), none, (.mv (.c (.v (.int .i64 0))))⟩,
    ⟨(some 4), none, (.mv (.c (.v (.int .i64 3))))⟩] false) .ret))))⟩
/- standby/wire.read[[]int] -/
def s98 : SFn := 
  ⟨.plain, 2, [(.tmp 4), (.tmp 5), (.tmp 6)], (.seq [0, 1] (.region [⟨(some 4), none, (.mv (.c (.v (.slice none 0 0))))⟩,
    ⟨(some 5), none, (.mv (.c (.v (.slice none 0 0))))⟩,
    ⟨(some 6), none, (.mv (.c (.v (.int .i64 0))))⟩] false) (.seq [1, 7] (.region [⟨(some 11), none, (.mv (.t 0))⟩,
    ⟨(some 12), none, (.build [(.v (.slice none 0 0))] [(0, (1, (.t 11)))])⟩,
    ⟨(some 13), none, (.box (.t 12))⟩,
    ⟨(some 7), none, (.mv (.t 13))⟩] false) (.seq [7, 8, 9] (.region [⟨(some 15), none, (.mv (.t 1))⟩,
    ⟨(some 16), none, (.mv (.t 7))⟩,
    ⟨(some 17), none, (.call (.t 15) [(.t 16)])⟩,
    ⟨(some 14), none, (.mv (.t 17))⟩,
    ⟨(some 18), none, (.extract (.t 14) 0)⟩,
    ⟨(some 19), none, (.extract (.t 14) 1)⟩,
    ⟨(some 8), none, (.mv (.t 18))⟩,
    ⟨(some 9), none, (.mv (.t 19))⟩] false) (.seq [7, 8] (.seq [7, 8, 9, 21] (.region [⟨(some 20), none, (.mv (.t 9))⟩,
    ⟨(some 21), none, (.bin .neq .none (.t 20) (.c (.v (.int .i64 0))))⟩] false) (.cond (.t 21) (.seq [9, 10] (.region [⟨(some 10), none, (.mv (.c (.v (.slice none 0 0))))⟩] false) (.seq [4, 5, 6] (.region [⟨(some 22), none, (.mv (.t 10))⟩,
    ⟨(some 23), none, (.mv (.t 9))⟩,
    ⟨(some 4), none, (.mv (.t 22))⟩,
    ⟨(some 5), none, (.mv (.c (.v (.slice none 0 0))))⟩,
    ⟨(some 6), none, (.mv (.t 23))⟩] false) .ret)) .skip)) (.seq [4, 5, 6] (.region [⟨(some 24), none, (.mv (.t 8))⟩,
    ⟨(some 25), none, (.mv (.t 7))⟩,
    ⟨(some 26), none, (.nilck (.t 25))⟩,
    ⟨(some 27), none, (.faddr 0 (.t 26))⟩,
    ⟨(some 28), none, (.load none (.t 27))⟩,
    ⟨(some 29), none, (.call (.c (.fn 31 [])) [(.t 28)])⟩,
    ⟨(some 4), none, (.mv (.t 24))⟩,
    ⟨(some 5), none, (.mv (.t 29))⟩,
    ⟨(some 6), none, (.mv (.c (.v (.int .i64 0))))⟩] false) .ret)))))⟩
/- standby/wire.Ints$1 -/
def s99 : SFn := 
  ⟨.whole, 1, [(.tmp 2), (.tmp 3)], (.seq [0] (.region [⟨(some 2), none, (.mv (.c (.v (.slice none 0 0))))⟩,
    ⟨(some 3), none, (.mv (.c (.v (.int .i64 0))))⟩] false) (.seq [2, 3] (.region [⟨(some 4), none, (.mv (.t 0))⟩,
    ⟨(some 5), none, (.call (.c (.fn 100 [])) [(.t 4), (.c (.fn 90 []))])⟩,
    ⟨(some 6), none, (.extract (.t 5) 0)⟩,
    ⟨(some 7), none, (.extract (.t 5) 1)⟩,
    ⟨(some 2), none, (.mv (.t 6))⟩,
    ⟨(some 3), none, (.mv (.t 7))⟩] false) .ret))⟩
/- standby/wire.list[int] -/
def s100b0 : SCode := 
  (.seq [0, 1, 8, 19, 20, 21] (.region [⟨(some 21), none, (.bin .lss .none (.t 20) (.t 19))⟩] false) (.seq [0, 1, 8, 19, 20] (.cond (.t 21) .skip (.exit 0)) (.seq [0, 1, 8, 19, 20] (.block 1 (.seq [0, 1, 8, 9, 10, 19, 20] (.region [⟨(some 23), none, (.mv (.t 1))⟩,
    ⟨(some 24), none, (.mv (.t 0))⟩,
    ⟨(some 25), none, (.call (.t 23) [(.t 24)])⟩,
    ⟨(some 22), none, (.mv (.t 25))⟩,
    ⟨(some 26), none, (.extract (.t 22) 0)⟩,
    ⟨(some 27), none, (.extract (.t 22) 1)⟩,
    ⟨(some 9), none, (.mv (.t 26))⟩,
    ⟨(some 10), none, (.mv (.t 27))⟩] false) (.seq [0, 1, 8, 9, 19, 20] (.seq [0, 1, 8, 9, 10, 19, 20, 29] (.region [⟨(some 28), none, (.mv (.t 10))⟩,
    ⟨(some 29), none, (.bin .neq .none (.t 28) (.c (.v (.int .i64 0))))⟩] false) (.cond (.t 29) (.seq [4, 5] (.region [⟨(some 30), none, (.mv (.t 10))⟩,
    ⟨(some 4), none, (.mv (.c (.v (.slice none 0 0))))⟩,
    ⟨(some 5), none, (.mv (.t 30))⟩] false) .ret) .skip)) (.region [⟨(some 31), none, (.mv (.t 8))⟩,
    ⟨(some 32), none, (.mv (.t 9))⟩,
    ⟨(some 33), none, (.bslice [(.v (.int .i64 0))] 1 [(0, (1, (.t 32)))])⟩,
    ⟨(some 34), none, (.append 1 8 (.t 31) (.t 33))⟩,
    ⟨(some 8), none, (.mv (.t 34))⟩] false)))) (.region [⟨(some 35), none, (.bin .add .none (.t 20) (.c (.v (.int .i64 1))))⟩,
    ⟨(some 20), none, (.mv (.t 35))⟩] false))))
def s100 : SFn := 
  ⟨.whole, 2, [(.tmp 4), (.tmp 5)], (.seq [0, 1] (.region [⟨(some 4), none, (.mv (.c (.v (.slice none 0 0))))⟩,
    ⟨(some 5), none, (.mv (.c (.v (.int .i64 0))))⟩] false) (.seq [0, 1, 6, 7] (.region [⟨(some 12), none, (.mv (.t 0))⟩,
    ⟨(some 13), none, (.call (.c (.fn 103 [])) [(.t 12)])⟩,
    ⟨(some 11), none, (.mv (.t 13))⟩,
    ⟨(some 14), none, (.extract (.t 11) 0)⟩,
    ⟨(some 15), none, (.extract (.t 11) 1)⟩,
    ⟨(some 6), none, (.mv (.t 14))⟩,
    ⟨(some 7), none, (.mv (.t 15))⟩] false) (.seq [0, 1, 6] (.seq [0, 1, 6, 7, 17] (.region [⟨(some 16), none, (.mv (.t 7))⟩,
    ⟨(some 17), none, (.bin .neq .none (.t 16) (.c (.v (.int .i64 0))))⟩] false) (.cond (.t 17) (.seq [4, 5] (.region [⟨(some 18), none, (.mv (.t 7))⟩,
    ⟨(some 4), none, (.mv (.c (.v (.slice none 0 0))))⟩,
    ⟨(some 5), none, (.mv (.t 18))⟩] false) .ret) .skip)) (.seq [0, 1, 6, 8] (.region [⟨(some 8), none, (.mv (.c (.v (.slice none 0 0))))⟩] false) (.seq [8] (.seq [0, 1, 8, 19, 20] (.region [⟨(some 19), none, (.mv (.t 6))⟩,
    ⟨(some 20), none, (.mv (.c (.v (.int .i64 0))))⟩] false) (.block 0 (.loop [0, 1, 8, 19, 20] s100b0))) (.seq [4, 5] (.region [⟨(some 36), none, (.mv (.t 8))⟩,
    ⟨(some 4), none, (.mv (.t 36))⟩,
    ⟨(some 5), none, (.mv (.c (.v (.int .i64 0))))⟩] false) .ret))))))⟩
/- slices.IndexFunc[[]int,int] -/
def s101b0 : SCode := 
  (.seq [0, 1, 7, 8, 9] (.region [⟨(some 9), none, (.bin .lss .none (.t 8) (.t 7))⟩] false) (.seq [0, 1, 7, 8] (.cond (.t 9) .skip (.exit 0)) (.seq [0, 1, 7, 8] (.block 1 (.seq [0, 1, 5, 7, 8] (.region [⟨(some 10), none, (.mv (.t 8))⟩,
    ⟨(some 5), none, (.mv (.t 10))⟩] false) (.seq [0, 1, 5, 7, 8, 16] (.region [⟨(some 11), none, (.mv (.t 1))⟩,
    ⟨(some 12), none, (.mv (.t 0))⟩,
    ⟨(some 13), none, (.mv (.t 5))⟩,
    ⟨(some 14), none, (.iaddr 1 none (.t 12) (.t 13))⟩,
    ⟨(some 15), none, (.load none (.t 14))⟩,
    ⟨(some 16), none, (.call (.t 11) [(.t 15)])⟩] false) (.cond (.t 16) (.seq [4] (.region [⟨(some 17), none, (.mv (.t 5))⟩,
    ⟨(some 4), none, (.mv (.t 17))⟩] false) .ret) .skip)))) (.region [⟨(some 18), none, (.bin .add .none (.t 8) (.c (.v (.int .i64 1))))⟩,
    ⟨(some 8), none, (.mv (.t 18))⟩] false))))
def s101 : SFn := 
  ⟨.plain, 2, [(.tmp 4)], (.seq [0, 1] (.region [⟨(some 4), none, (.mv (.c (.v (.int .i64 0))))⟩] false) (.seq [] (.seq [0, 1, 7, 8] (.region [⟨(some 6), none, (.mv (.t 0))⟩,
    ⟨(some 7), none, (.len (.t 6))⟩,
    ⟨(some 8), none, (.mv (.c (.v (.int .i64 0))))⟩] false) (.block 0 (.loop [0, 1, 7, 8] s101b0))) (.seq [4] (.region [⟨(some 4), none, (.mv (.c (.v (.int .i64 (-1)))))⟩] false) .ret)))⟩
/- standby/checksum.registers -/
def s102b0 : SCode := 
  (.seq [0, 1, 2, 3, 5, 10, 11] (.region [⟨(some 11), none, (.bin .lss .none (.t 10) (.c (.v (.int .i64 8))))⟩] false) (.seq [0, 1, 2, 3, 5, 10] (.cond (.t 11) .skip (.exit 2)) (.seq [0, 1, 2, 3, 5, 10] (.block 3 (.seq [0, 1, 2, 3, 4, 5, 10] (.region [⟨(some 12), none, (.mv (.t 3))⟩,
    ⟨(some 13), none, (.bin .and .none (.t 12) (.c (.v (.int .u32 1))))⟩,
    ⟨(some 4), none, (.mv (.t 13))⟩] false) (.seq [0, 1, 2, 3, 4, 5, 10] (.region [⟨(some 14), none, (.mv (.t 3))⟩,
    ⟨(some 15), none, (.bin .shr .none (.t 14) (.c (.v (.int .u64 1))))⟩,
    ⟨(some 3), none, (.mv (.t 15))⟩] false) (.region [⟨(some 16), none, (.mv (.t 3))⟩,
    ⟨(some 17), none, (.mv (.t 4))⟩,
    ⟨(some 18), none, (.bin .mul .none (.c (.v (.int .u32 2197175160))) (.t 17))⟩,
    ⟨(some 19), none, (.bin .xor .none (.t 16) (.t 18))⟩,
    ⟨(some 3), none, (.mv (.t 19))⟩] false)))) (.region [⟨(some 20), none, (.bin .add .none (.t 10) (.c (.v (.int .i64 1))))⟩,
    ⟨(some 10), none, (.mv (.t 20))⟩] false))))
def s102b1 : SCode := 
  (.seq [0, 1, 5, 6] (.region [⟨(some 6), none, (.bin .lss .none (.t 5) (.c (.v (.int .i64 256))))⟩] false) (.seq [0, 1, 5] (.cond (.t 6) .skip (.exit 0)) (.seq [0, 1, 5] (.block 1 (.seq [0, 1, 2, 5] (.region [⟨(some 7), none, (.mv (.t 5))⟩,
    ⟨(some 2), none, (.mv (.t 7))⟩] false) (.seq [0, 1, 2, 3, 5] (.region [⟨(some 8), none, (.mv (.t 2))⟩,
    ⟨(some 9), none, (.conv .u32 (.t 8))⟩,
    ⟨(some 3), none, (.mv (.t 9))⟩] false) (.seq [0, 1, 2, 3, 5] (.seq [0, 1, 2, 3, 5, 10] (.region [⟨(some 10), none, (.mv (.c (.v (.int .i64 0))))⟩] false) (.block 2 (.loop [0, 1, 2, 3, 5, 10] s102b0))) (.region [⟨(some 21), none, (.mv (.t 2))⟩,
    ⟨(some 22), none, (.mv (.t 3))⟩,
    ⟨(some 23), none, (.iaddr 1 (some 256) (.t 1) (.t 21))⟩,
    ⟨none, none, (.store 1 (.t 23) (.t 22))⟩] false))))) (.region [⟨(some 24), none, (.bin .add .none (.t 5) (.c (.v (.int .i64 1))))⟩,
    ⟨(some 5), none, (.mv (.t 24))⟩] false))))
def s102 : SFn := 
  ⟨.plain, 0, [(.cell 0 (some 256))], (.seq [0] (.region [⟨(some 0), none, (.alloc [(.v (.int .u32 0)), (.v (.int .u32 0)), (.v (.int .u32 0)), (.v (.int .u32 0)), (.v (.int .u32 0)), (.v (.int .u32 0)), (.v (.int .u32 0)), (.v (.int .u32 0)), (.v (.int .u32 0)), (.v (.int .u32 0)), (.v (.int .u32 0)), (.v (.int .u32 0)), (.v (.int .u32 0)), (.v (.int .u32 0)), (.v (.int .u32 0)), (.v (.int .u32 0)), (.v (.int .u32 0)), (.v (.int .u32 0)), (.v (.int .u32 0)), (.v (.int .u32 0)), (.v (.int .u32 0)), (.v (.int .u32 0)), (.v (.int .u32 0)), (.v (.int .u32 0)), (.v (.int .u32 0)), (.v (.int .u32 0)), (.v (.int .u32 0)), (.v (.int .u32 0)), (.v (.int .u32 0)), (.v (.int .u32 0)), (.v (.int .u32 0)), (.v (.int .u32 0)), (.v (.int .u32 0)), (.v (.int .u32 0)), (.v (.int .u32 0)), (.v (.int .u32 0)), (.v (.int .u32 0)), (.v (.int .u32 0)), (.v (.int .u32 0)), (.v (.int .u32 0)), (.v (.int .u32 0)), (.v (.int .u32 0)), (.v (.int .u32 0)), (.v (.int .u32 0)), (.v (.int .u32 0)), (.v (.int .u32 0)), (.v (.int .u32 0)), (.v (.int .u32 0)), (.v (.int .u32 0)), (.v (.int .u32 0)), (.v (.int .u32 0)), (.v (.int .u32 0)), (.v (.int .u32 0)), (.v (.int .u32 0)), (.v (.int .u32 0)), (.v (.int .u32 0)), (.v (.int .u32 0)), (.v (.int .u32 0)), (.v (.int .u32 0)), (.v (.int .u32 0)), (.v (.int .u32 0)), (.v (.int .u32 0)), (.v (.int .u32 0)), (.v (.int .u32 0)), (.v (.int .u32 0)), (.v (.int .u32 0)), (.v (.int .u32 0)), (.v (.int .u32 0)), (.v (.int .u32 0)), (.v (.int .u32 0)), (.v (.int .u32 0)), (.v (.int .u32 0)), (.v (.int .u32 0)), (.v (.int .u32 0)), (.v (.int .u32 0)), (.v (.int .u32 0)), (.v (.int .u32 0)), (.v (.int .u32 0)), (.v (.int .u32 0)), (.v (.int .u32 0)), (.v (.int .u32 0)), (.v (.int .u32 0)), (.v (.int .u32 0)), (.v (.int .u32 0)), (.v (.int .u32 0)), (.v (.int .u32 0)), (.v (.int .u32 0)), (.v (.int .u32 0)), (.v (.int .u32 0)), (.v (.int .u32 0)), (.v (.int .u32 0)), (.v (.int .u32 0)), (.v (.int .u32 0)), (.v (.int .u32 0)), (.v (.int .u32 0)), (.v (.int .u32 0)), (.v (.int .u32 0)), (.v (.int .u32 0)), (.v (.int .u32 0)), (.v (.int .u32 0)), (.v (.int .u32 0)), (.v (.int .u32 0)), (.v (.int .u32 0)), (.v (.int .u32 0)), (.v (.int .u32 0)), (.v (.int .u32 0)), (.v (.int .u32 0)), (.v (.int .u32 0)), (.v (.int .u32 0)), (.v (.int .u32 0)), (.v (.int .u32 0)), (.v (.int .u32 0)), (.v (.int .u32 0)), (.v (.int .u32 0)), (.v (.int .u32 0)), (.v (.int .u32 0)), (.v (.int .u32 0)), (.v (.int .u32 0)), (.v (.int .u32 0)), (.v (.int .u32 0)), (.v (.int .u32 0)), (.v (.int .u32 0)), (.v (.int .u32 0)), (.v (.int .u32 0)), (.v (.int .u32 0)), (.v (.int .u32 0)), (.v (.int .u32 0)), (.v (.int .u32 0)), (.v (.int .u32 0)), (.v (.int .u32 0)), (.v (.int .u32 0)), (.v (.int .u32 0)), (.v (.int .u32 0)), (.v (.int .u32 0)), (.v (.int .u32 0)), (.v (.int .u32 0)), (.v (.int .u32 0)), (.v (.int .u32 0)), (.v (.int .u32 0)), (.v (.int .u32 0)), (.v (.int .u32 0)), (.v (.int .u32 0)), (.v (.int .u32 0)), (.v (.int .u32 0)), (.v (.int .u32 0)), (.v (.int .u32 0)), (.v (.int .u32 0)), (.v (.int .u32 0)), (.v (.int .u32 0)), (.v (.int .u32 0)), (.v (.int .u32 0)), (.v (.int .u32 0)), (.v (.int .u32 0)), (.v (.int .u32 0)), (.v (.int .u32 0)), (.v (.int .u32 0)), (.v (.int .u32 0)), (.v (.int .u32 0)), (.v (.int .u32 0)), (.v (.int .u32 0)), (.v (.int .u32 0)), (.v (.int .u32 0)), (.v (.int .u32 0)), (.v (.int .u32 0)), (.v (.int .u32 0)), (.v (.int .u32 0)), (.v (.int .u32 0)), (.v (.int .u32 0)), (.v (.int .u32 0)), (.v (.int .u32 0)), (.v (.int .u32 0)), (.v (.int .u32 0)), (.v (.int .u32 0)), (.v (.int .u32 0)), (.v (.int .u32 0)), (.v (.int .u32 0)), (.v (.int .u32 0)), (.v (.int .u32 0)), (.v (.int .u32 0)), (.v (.int .u32 0)), (.v (.int .u32 0)), (.v (.int .u32 0)), (.v (.int .u32 0)), (.v (.int .u32 0)), (.v (.int .u32 0)), (.v (.int .u32 0)), (.v (.int .u32 0)), (.v (.int .u32 0)), (.v (.int .u32 0)), (.v (.int .u32 0)), (.v (.int .u32 0)), (.v (.int .u32 0)), (.v (.int .u32 0)), (.v (.int .u32 0)), (.v (.int .u32 0)), (.v (.int .u32 0)), (.v (.int .u32 0)), (.v (.int .u32 0)), (.v (.int .u32 0)), (.v (.int .u32 0)), (.v (.int .u32 0)), (.v (.int .u32 0)), (.v (.int .u32 0)), (.v (.int .u32 0)), (.v (.int .u32 0)), (.v (.int .u32 0)), (.v (.int .u32 0)), (.v (.int .u32 0)), (.v (.int .u32 0)), (.v (.int .u32 0)), (.v (.int .u32 0)), (.v (.int .u32 0)), (.v (.int .u32 0)), (.v (.int .u32 0)), (.v (.int .u32 0)), (.v (.int .u32 0)), (.v (.int .u32 0)), (.v (.int .u32 0)), (.v (.int .u32 0)), (.v (.int .u32 0)), (.v (.int .u32 0)), (.v (.int .u32 0)), (.v (.int .u32 0)), (.v (.int .u32 0)), (.v (.int .u32 0)), (.v (.int .u32 0)), (.v (.int .u32 0)), (.v (.int .u32 0)), (.v (.int .u32 0)), (.v (.int .u32 0)), (.v (.int .u32 0)), (.v (.int .u32 0)), (.v (.int .u32 0)), (.v (.int .u32 0)), (.v (.int .u32 0)), (.v (.int .u32 0)), (.v (.int .u32 0)), (.v (.int .u32 0)), (.v (.int .u32 0)), (.v (.int .u32 0)), (.v (.int .u32 0)), (.v (.int .u32 0)), (.v (.int .u32 0)), (.v (.int .u32 0)), (.v (.int .u32 0)), (.v (.int .u32 0)), (.v (.int .u32 0)), (.v (.int .u32 0)), (.v (.int .u32 0)), (.v (.int .u32 0)), (.v (.int .u32 0)), (.v (.int .u32 0)), (.v (.int .u32 0)), (.v (.int .u32 0)), (.v (.int .u32 0)), (.v (.int .u32 0))])⟩] false) (.seq [0, 1] (.region [⟨(some 1), none, (.alloc [(.v (.int .u32 0)), (.v (.int .u32 0)), (.v (.int .u32 0)), (.v (.int .u32 0)), (.v (.int .u32 0)), (.v (.int .u32 0)), (.v (.int .u32 0)), (.v (.int .u32 0)), (.v (.int .u32 0)), (.v (.int .u32 0)), (.v (.int .u32 0)), (.v (.int .u32 0)), (.v (.int .u32 0)), (.v (.int .u32 0)), (.v (.int .u32 0)), (.v (.int .u32 0)), (.v (.int .u32 0)), (.v (.int .u32 0)), (.v (.int .u32 0)), (.v (.int .u32 0)), (.v (.int .u32 0)), (.v (.int .u32 0)), (.v (.int .u32 0)), (.v (.int .u32 0)), (.v (.int .u32 0)), (.v (.int .u32 0)), (.v (.int .u32 0)), (.v (.int .u32 0)), (.v (.int .u32 0)), (.v (.int .u32 0)), (.v (.int .u32 0)), (.v (.int .u32 0)), (.v (.int .u32 0)), (.v (.int .u32 0)), (.v (.int .u32 0)), (.v (.int .u32 0)), (.v (.int .u32 0)), (.v (.int .u32 0)), (.v (.int .u32 0)), (.v (.int .u32 0)), (.v (.int .u32 0)), (.v (.int .u32 0)), (.v (.int .u32 0)), (.v (.int .u32 0)), (.v (.int .u32 0)), (.v (.int .u32 0)), (.v (.int .u32 0)), (.v (.int .u32 0)), (.v (.int .u32 0)), (.v (.int .u32 0)), (.v (.int .u32 0)), (.v (.int .u32 0)), (.v (.int .u32 0)), (.v (.int .u32 0)), (.v (.int .u32 0)), (.v (.int .u32 0)), (.v (.int .u32 0)), (.v (.int .u32 0)), (.v (.int .u32 0)), (.v (.int .u32 0)), (.v (.int .u32 0)), (.v (.int .u32 0)), (.v (.int .u32 0)), (.v (.int .u32 0)), (.v (.int .u32 0)), (.v (.int .u32 0)), (.v (.int .u32 0)), (.v (.int .u32 0)), (.v (.int .u32 0)), (.v (.int .u32 0)), (.v (.int .u32 0)), (.v (.int .u32 0)), (.v (.int .u32 0)), (.v (.int .u32 0)), (.v (.int .u32 0)), (.v (.int .u32 0)), (.v (.int .u32 0)), (.v (.int .u32 0)), (.v (.int .u32 0)), (.v (.int .u32 0)), (.v (.int .u32 0)), (.v (.int .u32 0)), (.v (.int .u32 0)), (.v (.int .u32 0)), (.v (.int .u32 0)), (.v (.int .u32 0)), (.v (.int .u32 0)), (.v (.int .u32 0)), (.v (.int .u32 0)), (.v (.int .u32 0)), (.v (.int .u32 0)), (.v (.int .u32 0)), (.v (.int .u32 0)), (.v (.int .u32 0)), (.v (.int .u32 0)), (.v (.int .u32 0)), (.v (.int .u32 0)), (.v (.int .u32 0)), (.v (.int .u32 0)), (.v (.int .u32 0)), (.v (.int .u32 0)), (.v (.int .u32 0)), (.v (.int .u32 0)), (.v (.int .u32 0)), (.v (.int .u32 0)), (.v (.int .u32 0)), (.v (.int .u32 0)), (.v (.int .u32 0)), (.v (.int .u32 0)), (.v (.int .u32 0)), (.v (.int .u32 0)), (.v (.int .u32 0)), (.v (.int .u32 0)), (.v (.int .u32 0)), (.v (.int .u32 0)), (.v (.int .u32 0)), (.v (.int .u32 0)), (.v (.int .u32 0)), (.v (.int .u32 0)), (.v (.int .u32 0)), (.v (.int .u32 0)), (.v (.int .u32 0)), (.v (.int .u32 0)), (.v (.int .u32 0)), (.v (.int .u32 0)), (.v (.int .u32 0)), (.v (.int .u32 0)), (.v (.int .u32 0)), (.v (.int .u32 0)), (.v (.int .u32 0)), (.v (.int .u32 0)), (.v (.int .u32 0)), (.v (.int .u32 0)), (.v (.int .u32 0)), (.v (.int .u32 0)), (.v (.int .u32 0)), (.v (.int .u32 0)), (.v (.int .u32 0)), (.v (.int .u32 0)), (.v (.int .u32 0)), (.v (.int .u32 0)), (.v (.int .u32 0)), (.v (.int .u32 0)), (.v (.int .u32 0)), (.v (.int .u32 0)), (.v (.int .u32 0)), (.v (.int .u32 0)), (.v (.int .u32 0)), (.v (.int .u32 0)), (.v (.int .u32 0)), (.v (.int .u32 0)), (.v (.int .u32 0)), (.v (.int .u32 0)), (.v (.int .u32 0)), (.v (.int .u32 0)), (.v (.int .u32 0)), (.v (.int .u32 0)), (.v (.int .u32 0)), (.v (.int .u32 0)), (.v (.int .u32 0)), (.v (.int .u32 0)), (.v (.int .u32 0)), (.v (.int .u32 0)), (.v (.int .u32 0)), (.v (.int .u32 0)), (.v (.int .u32 0)), (.v (.int .u32 0)), (.v (.int .u32 0)), (.v (.int .u32 0)), (.v (.int .u32 0)), (.v (.int .u32 0)), (.v (.int .u32 0)), (.v (.int .u32 0)), (.v (.int .u32 0)), (.v (.int .u32 0)), (.v (.int .u32 0)), (.v (.int .u32 0)), (.v (.int .u32 0)), (.v (.int .u32 0)), (.v (.int .u32 0)), (.v (.int .u32 0)), (.v (.int .u32 0)), (.v (.int .u32 0)), (.v (.int .u32 0)), (.v (.int .u32 0)), (.v (.int .u32 0)), (.v (.int .u32 0)), (.v (.int .u32 0)), (.v (.int .u32 0)), (.v (.int .u32 0)), (.v (.int .u32 0)), (.v (.int .u32 0)), (.v (.int .u32 0)), (.v (.int .u32 0)), (.v (.int .u32 0)), (.v (.int .u32 0)), (.v (.int .u32 0)), (.v (.int .u32 0)), (.v (.int .u32 0)), (.v (.int .u32 0)), (.v (.int .u32 0)), (.v (.int .u32 0)), (.v (.int .u32 0)), (.v (.int .u32 0)), (.v (.int .u32 0)), (.v (.int .u32 0)), (.v (.int .u32 0)), (.v (.int .u32 0)), (.v (.int .u32 0)), (.v (.int .u32 0)), (.v (.int .u32 0)), (.v (.int .u32 0)), (.v (.int .u32 0)), (.v (.int .u32 0)), (.v (.int .u32 0)), (.v (.int .u32 0)), (.v (.int .u32 0)), (.v (.int .u32 0)), (.v (.int .u32 0)), (.v (.int .u32 0)), (.v (.int .u32 0)), (.v (.int .u32 0)), (.v (.int .u32 0)), (.v (.int .u32 0)), (.v (.int .u32 0)), (.v (.int .u32 0)), (.v (.int .u32 0)), (.v (.int .u32 0)), (.v (.int .u32 0)), (.v (.int .u32 0)), (.v (.int .u32 0)), (.v (.int .u32 0)), (.v (.int .u32 0)), (.v (.int .u32 0)), (.v (.int .u32 0)), (.v (.int .u32 0)), (.v (.int .u32 0)), (.v (.int .u32 0)), (.v (.int .u32 0)), (.v (.int .u32 0)), (.v (.int .u32 0)), (.v (.int .u32 0)), (.v (.int .u32 0)), (.v (.int .u32 0)), (.v (.int .u32 0)), (.v (.int .u32 0)), (.v (.int .u32 0)), (.v (.int .u32 0)), (.v (.int .u32 0)), (.v (.int .u32 0)), (.v (.int .u32 0)), (.v (.int .u32 0)), (.v (.int .u32 0)), (.v (.int .u32 0)), (.v (.int .u32 0)), (.v (.int .u32 0))])⟩] false) (.seq [0, 1] (.seq [0, 1, 5] (.region [⟨(some 5), none, (.mv (.c (.v (.int .i64 0))))⟩] false) (.block 0 (.loop [0, 1, 5] s102b1))) (.seq [0] (.region [⟨(some 25), none, (.load (some 256) (.t 1))⟩,
    ⟨none, none, (.store 256 (.t 0) (.t 25))⟩] false) .ret))))⟩
/- (*standby/wire.cursor).length -/
def s103 : SFn := 
  ⟨.whole, 1, [(.tmp 2), (.tmp 3)], (.seq [0] (.region [⟨(some 2), none, (.mv (.c (.v (.int .i64 0))))⟩,
    ⟨(some 3), none, (.mv (.c (.v (.int .i64 0))))⟩] false) (.seq [4, 5] (.region [⟨(some 7), none, (.mv (.t 0))⟩,
    ⟨(some 8), none, (.call (.c (.fn 90 [])) [(.t 7)])⟩,
    ⟨(some 6), none, (.mv (.t 8))⟩,
    ⟨(some 9), none, (.extract (.t 6) 0)⟩,
    ⟨(some 10), none, (.extract (.t 6) 1)⟩,
    ⟨(some 4), none, (.mv (.t 9))⟩,
    ⟨(some 5), none, (.mv (.t 10))⟩] false) (.seq [4, 5] (.seq [4, 5, 16] (.region [⟨(some 11), none, (.mv (.t 5))⟩,
    ⟨(some 12), none, (.bin .eql .none (.t 11) (.c (.v (.int .i64 0))))⟩,
    ⟨(some 13), none, (.mv (.t 12))⟩,
    ⟨(some 14), (some (13, true)), (.mv (.t 4))⟩,
    ⟨(some 15), (some (13, true)), (.bin .gtr .none (.t 14) (.c (.v (.int .i64 65536))))⟩,
    ⟨(some 16), none, (.pick (.t 13) (.t 15) (.c (.v (.bool false))))⟩] false) (.cond (.t 16) (.region [⟨(some 5), none, (.mv (.c (.v (.int .i64 5))))⟩] false) .skip)) (.seq [2, 3] (.region [⟨(some 17), none, (.mv (.t 4))⟩,
    ⟨(some 18), none, (.mv (.t 5))⟩,
    ⟨(some 2), none, (.mv (.t 17))⟩,
    ⟨(some 3), none, (.mv (.t 18))⟩] false) .ret))))⟩
/- (*standby/wire.cursor).pair -/
def s104 : SFn := 
  ⟨.whole, 1, [(.tmp 2), (.tmp 3), (.tmp 4)], (.seq [0] (.region [⟨(some 2), none, (.mv (.c (.v (.int .i64 0))))⟩,
    ⟨(some 3), none, (.mv (.c (.v (.int .i64 0))))⟩,
    ⟨(some 4), none, (.mv (.c (.v (.int .i64 0))))⟩] false) (.seq [0, 5, 6] (.region [⟨(some 9), none, (.mv (.t 0))⟩,
    ⟨(some 10), none, (.call (.c (.fn 90 [])) [(.t 9)])⟩,
    ⟨(some 8), none, (.mv (.t 10))⟩,
    ⟨(some 11), none, (.extract (.t 8) 0)⟩,
    ⟨(some 12), none, (.extract (.t 8) 1)⟩,
    ⟨(some 5), none, (.mv (.t 11))⟩,
    ⟨(some 6), none, (.mv (.t 12))⟩] false) (.seq [0, 5] (.seq [0, 5, 6, 14] (.region [⟨(some 13), none, (.mv (.t 6))⟩,
    ⟨(some 14), none, (.bin .neq .none (.t 13) (.c (.v (.int .i64 0))))⟩] false) (.cond (.t 14) (.seq [2, 3, 4] (.region [⟨(some 15), none, (.mv (.t 6))⟩,
    ⟨(some 2), none, (.mv (.c (.v (.int .i64 0))))⟩,
    ⟨(some 3), none, (.mv (.c (.v (.int .i64 0))))⟩,
    ⟨(some 4), none, (.mv (.t 15))⟩] false) .ret) .skip)) (.seq [5, 6, 7] (.region [⟨(some 17), none, (.mv (.t 0))⟩,
    ⟨(some 18), none, (.call (.c (.fn 90 [])) [(.t 17)])⟩,
    ⟨(some 16), none, (.mv (.t 18))⟩,
    ⟨(some 19), none, (.extract (.t 16) 0)⟩,
    ⟨(some 20), none, (.extract (.t 16) 1)⟩,
    ⟨(some 7), none, (.mv (.t 19))⟩,
    ⟨(some 6), none, (.mv (.t 20))⟩] false) (.seq [2, 3, 4] (.region [⟨(some 21), none, (.mv (.t 5))⟩,
    ⟨(some 22), none, (.mv (.t 7))⟩,
    ⟨(some 23), none, (.mv (.t 6))⟩,
    ⟨(some 2), none, (.mv (.t 21))⟩,
    ⟨(some 3), none, (.mv (.t 22))⟩,
    ⟨(some 4), none, (.mv (.t 23))⟩] false) .ret)))))⟩
/- (*standby/wire.cursor).bytes -/
def s105 : SFn := 
  ⟨.whole, 2, [(.tmp 4), (.tmp 5)], (.seq [0, 1] (.region [⟨(some 4), none, (.mv (.c (.v (.slice none 0 0))))⟩,
    ⟨(some 5), none, (.mv (.c (.v (.int .i64 0))))⟩] false) (.seq [0, 1] (.seq [0, 1, 13] (.region [⟨(some 7), none, (.mv (.t 1))⟩,
    ⟨(some 8), none, (.mv (.t 0))⟩,
    ⟨(some 9), none, (.nilck (.t 8))⟩,
    ⟨(some 10), none, (.faddr 0 (.t 9))⟩,
    ⟨(some 11), none, (.load none (.t 10))⟩,
    ⟨(some 12), none, (.len (.t 11))⟩,
    ⟨(some 13), none, (.bin .gtr .none (.t 7) (.t 12))⟩] false) (.cond (.t 13) (.seq [4, 5] (.region [⟨(some 4), none, (.mv (.c (.v (.slice none 0 0))))⟩,
    ⟨(some 5), none, (.mv (.c (.v (.int .i64 10))))⟩] false) .ret) .skip)) (.seq [0, 1, 6] (.region [⟨(some 14), none, (.mv (.t 0))⟩,
    ⟨(some 15), none, (.nilck (.t 14))⟩,
    ⟨(some 16), none, (.faddr 0 (.t 15))⟩,
    ⟨(some 17), none, (.load none (.t 16))⟩,
    ⟨(some 18), none, (.mv (.t 1))⟩,
    ⟨(some 19), none, (.slice 1 (.t 17) none (some (.t 18)))⟩,
    ⟨(some 6), none, (.mv (.t 19))⟩] false) (.seq [6] (.region [⟨(some 20), none, (.mv (.t 0))⟩,
    ⟨(some 21), none, (.mv (.t 0))⟩,
    ⟨(some 22), none, (.nilck (.t 21))⟩,
    ⟨(some 23), none, (.faddr 0 (.t 22))⟩,
    ⟨(some 24), none, (.load none (.t 23))⟩,
    ⟨(some 25), none, (.mv (.t 1))⟩,
    ⟨(some 26), none, (.slice 1 (.t 24) (some (.t 25)) none)⟩,
    ⟨(some 27), none, (.nilck (.t 20))⟩,
    ⟨(some 28), none, (.faddr 0 (.t 27))⟩,
    ⟨none, none, (.store 1 (.t 28) (.t 26))⟩] false) (.seq [4, 5] (.region [⟨(some 29), none, (.mv (.t 6))⟩,
    ⟨(some 4), none, (.mv (.t 29))⟩,
    ⟨(some 5), none, (.mv (.c (.v (.int .i64 0))))⟩] false) .ret)))))⟩

def T : FuncId → Option SFn
  | 3 => some s3
  | 4 => some s4
  | 5 => some s5
  | 6 => some s6
  | 7 => some s7
  | 8 => some s8
  | 9 => some s9
  | 10 => some s10
  | 11 => some s11
  | 12 => some s12
  | 13 => some s13
  | 14 => some s14
  | 15 => some s15
  | 16 => some s16
  | 17 => some s17
  | 18 => some s18
  | 19 => some s19
  | 20 => some s20
  | 21 => some s21
  | 22 => some s22
  | 23 => some s23
  | 24 => some s24
  | 25 => some s25
  | 26 => some s26
  | 27 => some s27
  | 28 => some s28
  | 29 => some s29
  | 30 => some s30
  | 31 => some s31
  | 32 => some s32
  | 33 => some s33
  | 34 => some s34
  | 35 => some s35
  | 36 => some s36
  | 37 => some s37
  | 38 => some s38
  | 39 => some s39
  | 40 => some s40
  | 41 => some s41
  | 42 => some s42
  | 43 => some s43
  | 44 => some s44
  | 45 => some s45
  | 46 => some s46
  | 47 => some s47
  | 48 => some s48
  | 49 => some s49
  | 50 => some s50
  | 51 => some s51
  | 52 => some s52
  | 53 => some s53
  | 54 => some s54
  | 55 => some s55
  | 56 => some s56
  | 57 => some s57
  | 58 => some s58
  | 59 => some s59
  | 60 => some s60
  | 61 => some s61
  | 62 => some s62
  | 63 => some s63
  | 64 => some s64
  | 65 => some s65
  | 66 => some s66
  | 67 => some s67
  | 68 => some s68
  | 69 => some s69
  | 70 => some s70
  | 71 => some s71
  | 72 => some s72
  | 73 => some s73
  | 74 => some s74
  | 75 => some s75
  | 76 => some s76
  | 77 => some s77
  | 78 => some s78
  | 79 => some s79
  | 80 => some s80
  | 81 => some s81
  | 82 => some s82
  | 83 => some s83
  | 84 => some s84
  | 85 => some s85
  | 86 => some s86
  | 87 => some s87
  | 88 => some s88
  | 89 => some s89
  | 90 => some s90
  | 91 => some s91
  | 92 => some s92
  | 93 => some s93
  | 94 => some s94
  | 95 => some s95
  | 96 => some s96
  | 97 => some s97
  | 98 => some s98
  | 99 => some s99
  | 100 => some s100
  | 101 => some s101
  | 102 => some s102
  | 103 => some s103
  | 104 => some s104
  | 105 => some s105
  | _ => none

theorem T3 : T 3 = some s3 := rfl
theorem T4 : T 4 = some s4 := rfl
theorem T5 : T 5 = some s5 := rfl
theorem T6 : T 6 = some s6 := rfl
theorem T7 : T 7 = some s7 := rfl
theorem T8 : T 8 = some s8 := rfl
theorem T9 : T 9 = some s9 := rfl
theorem T10 : T 10 = some s10 := rfl
theorem T11 : T 11 = some s11 := rfl
theorem T12 : T 12 = some s12 := rfl
theorem T13 : T 13 = some s13 := rfl
theorem T14 : T 14 = some s14 := rfl
theorem T15 : T 15 = some s15 := rfl
theorem T16 : T 16 = some s16 := rfl
theorem T17 : T 17 = some s17 := rfl
theorem T18 : T 18 = some s18 := rfl
theorem T19 : T 19 = some s19 := rfl
theorem T20 : T 20 = some s20 := rfl
theorem T21 : T 21 = some s21 := rfl
theorem T22 : T 22 = some s22 := rfl
theorem T23 : T 23 = some s23 := rfl
theorem T24 : T 24 = some s24 := rfl
theorem T25 : T 25 = some s25 := rfl
theorem T26 : T 26 = some s26 := rfl
theorem T27 : T 27 = some s27 := rfl
theorem T28 : T 28 = some s28 := rfl
theorem T29 : T 29 = some s29 := rfl
theorem T30 : T 30 = some s30 := rfl
theorem T31 : T 31 = some s31 := rfl
theorem T32 : T 32 = some s32 := rfl
theorem T33 : T 33 = some s33 := rfl
theorem T34 : T 34 = some s34 := rfl
theorem T35 : T 35 = some s35 := rfl
theorem T36 : T 36 = some s36 := rfl
theorem T37 : T 37 = some s37 := rfl
theorem T38 : T 38 = some s38 := rfl
theorem T39 : T 39 = some s39 := rfl
theorem T40 : T 40 = some s40 := rfl
theorem T41 : T 41 = some s41 := rfl
theorem T42 : T 42 = some s42 := rfl
theorem T43 : T 43 = some s43 := rfl
theorem T44 : T 44 = some s44 := rfl
theorem T45 : T 45 = some s45 := rfl
theorem T46 : T 46 = some s46 := rfl
theorem T47 : T 47 = some s47 := rfl
theorem T48 : T 48 = some s48 := rfl
theorem T49 : T 49 = some s49 := rfl
theorem T50 : T 50 = some s50 := rfl
theorem T51 : T 51 = some s51 := rfl
theorem T52 : T 52 = some s52 := rfl
theorem T53 : T 53 = some s53 := rfl
theorem T54 : T 54 = some s54 := rfl
theorem T55 : T 55 = some s55 := rfl
theorem T56 : T 56 = some s56 := rfl
theorem T57 : T 57 = some s57 := rfl
theorem T58 : T 58 = some s58 := rfl
theorem T59 : T 59 = some s59 := rfl
theorem T60 : T 60 = some s60 := rfl
theorem T61 : T 61 = some s61 := rfl
theorem T62 : T 62 = some s62 := rfl
theorem T63 : T 63 = some s63 := rfl
theorem T64 : T 64 = some s64 := rfl
theorem T65 : T 65 = some s65 := rfl
theorem T66 : T 66 = some s66 := rfl
theorem T67 : T 67 = some s67 := rfl
theorem T68 : T 68 = some s68 := rfl
theorem T69 : T 69 = some s69 := rfl
theorem T70 : T 70 = some s70 := rfl
theorem T71 : T 71 = some s71 := rfl
theorem T72 : T 72 = some s72 := rfl
theorem T73 : T 73 = some s73 := rfl
theorem T74 : T 74 = some s74 := rfl
theorem T75 : T 75 = some s75 := rfl
theorem T76 : T 76 = some s76 := rfl
theorem T77 : T 77 = some s77 := rfl
theorem T78 : T 78 = some s78 := rfl
theorem T79 : T 79 = some s79 := rfl
theorem T80 : T 80 = some s80 := rfl
theorem T81 : T 81 = some s81 := rfl
theorem T82 : T 82 = some s82 := rfl
theorem T83 : T 83 = some s83 := rfl
theorem T84 : T 84 = some s84 := rfl
theorem T85 : T 85 = some s85 := rfl
theorem T86 : T 86 = some s86 := rfl
theorem T87 : T 87 = some s87 := rfl
theorem T88 : T 88 = some s88 := rfl
theorem T89 : T 89 = some s89 := rfl
theorem T90 : T 90 = some s90 := rfl
theorem T91 : T 91 = some s91 := rfl
theorem T92 : T 92 = some s92 := rfl
theorem T93 : T 93 = some s93 := rfl
theorem T94 : T 94 = some s94 := rfl
theorem T95 : T 95 = some s95 := rfl
theorem T96 : T 96 = some s96 := rfl
theorem T97 : T 97 = some s97 := rfl
theorem T98 : T 98 = some s98 := rfl
theorem T99 : T 99 = some s99 := rfl
theorem T100 : T 100 = some s100 := rfl
theorem T101 : T 101 = some s101 := rfl
theorem T102 : T 102 = some s102 := rfl
theorem T103 : T 103 = some s103 := rfl
theorem T104 : T 104 = some s104 := rfl
theorem T105 : T 105 = some s105 := rfl

set_option maxRecDepth 100000
theorem t3 : stripFn Try.prog kd 3 Try.f3 = some s3 := by kernel_rfl
theorem t4 : stripFn Try.prog kd 4 Try.f4 = some s4 := by kernel_rfl
theorem t5 : stripFn Try.prog kd 5 Try.f5 = some s5 := by kernel_rfl
theorem t6 : stripFn Try.prog kd 6 Try.f6 = some s6 := by kernel_rfl
theorem t7 : stripFn Try.prog kd 7 Try.f7 = some s7 := by kernel_rfl
theorem t8 : stripFn Try.prog kd 8 Try.f8 = some s8 := by kernel_rfl
theorem t9 : stripFn Try.prog kd 9 Try.f9 = some s9 := by kernel_rfl
theorem t10 : stripFn Try.prog kd 10 Try.f10 = some s10 := by kernel_rfl
theorem t11 : stripFn Try.prog kd 11 Try.f11 = some s11 := by kernel_rfl
theorem t12 : stripFn Try.prog kd 12 Try.f12 = some s12 := by kernel_rfl
theorem t13 : stripFn Try.prog kd 13 Try.f13 = some s13 := by kernel_rfl
theorem t14 : stripFn Try.prog kd 14 Try.f14 = some s14 := by kernel_rfl
theorem t15 : stripFn Try.prog kd 15 Try.f15 = some s15 := by kernel_rfl
theorem t16 : stripFn Try.prog kd 16 Try.f16 = some s16 := by kernel_rfl
theorem t17 : stripFn Try.prog kd 17 Try.f17 = some s17 := by kernel_rfl
theorem t18 : stripFn Try.prog kd 18 Try.f18 = some s18 := by kernel_rfl
theorem t19 : stripFn Try.prog kd 19 Try.f19 = some s19 := by kernel_rfl
theorem t20 : stripFn Try.prog kd 20 Try.f20 = some s20 := by kernel_rfl
theorem t21 : stripFn Try.prog kd 21 Try.f21 = some s21 := by kernel_rfl
theorem t22 : stripFn Try.prog kd 22 Try.f22 = some s22 := by kernel_rfl
theorem t23 : stripFn Try.prog kd 23 Try.f23 = some s23 := by kernel_rfl
theorem t24 : stripFn Try.prog kd 24 Try.f24 = some s24 := by kernel_rfl
theorem t25 : stripFn Try.prog kd 25 Try.f25 = some s25 := by kernel_rfl
theorem t26 : stripFn Try.prog kd 26 Try.f26 = some s26 := by kernel_rfl
theorem t27 : stripFn Try.prog kd 27 Try.f27 = some s27 := by kernel_rfl
theorem t28 : stripFn Try.prog kd 28 Try.f28 = some s28 := by kernel_rfl
theorem t29 : stripFn Try.prog kd 29 Try.f29 = some s29 := by kernel_rfl
theorem t30 : stripFn Try.prog kd 30 Try.f30 = some s30 := by kernel_rfl
theorem t31 : stripFn Try.prog kd 31 Try.f31 = some s31 := by kernel_rfl
theorem t32 : stripFn Try.prog kd 32 Try.f32 = some s32 := by kernel_rfl
theorem t33 : stripFn Try.prog kd 33 Try.f33 = some s33 := by kernel_rfl
theorem t34 : stripFn Try.prog kd 34 Try.f34 = some s34 := by kernel_rfl
theorem t35 : stripFn Try.prog kd 35 Try.f35 = some s35 := by kernel_rfl
theorem t36 : stripFn Try.prog kd 36 Try.f36 = some s36 := by kernel_rfl
theorem t37 : stripFn Try.prog kd 37 Try.f37 = some s37 := by kernel_rfl
theorem t38 : stripFn Try.prog kd 38 Try.f38 = some s38 := by kernel_rfl
theorem t39 : stripFn Try.prog kd 39 Try.f39 = some s39 := by kernel_rfl
theorem t40 : stripFn Try.prog kd 40 Try.f40 = some s40 := by kernel_rfl
theorem t41 : stripFn Try.prog kd 41 Try.f41 = some s41 := by kernel_rfl
theorem t42 : stripFn Try.prog kd 42 Try.f42 = some s42 := by kernel_rfl
theorem t43 : stripFn Try.prog kd 43 Try.f43 = some s43 := by kernel_rfl
theorem t44 : stripFn Try.prog kd 44 Try.f44 = some s44 := by kernel_rfl
theorem t45 : stripFn Try.prog kd 45 Try.f45 = some s45 := by kernel_rfl
theorem t46 : stripFn Try.prog kd 46 Try.f46 = some s46 := by kernel_rfl
theorem t47 : stripFn Try.prog kd 47 Try.f47 = some s47 := by kernel_rfl
theorem t48 : stripFn Try.prog kd 48 Try.f48 = some s48 := by kernel_rfl
theorem t49 : stripFn Try.prog kd 49 Try.f49 = some s49 := by kernel_rfl
theorem t50 : stripFn Try.prog kd 50 Try.f50 = some s50 := by kernel_rfl
theorem t51 : stripFn Try.prog kd 51 Try.f51 = some s51 := by kernel_rfl
theorem t52 : stripFn Try.prog kd 52 Try.f52 = some s52 := by kernel_rfl
theorem t53 : stripFn Try.prog kd 53 Try.f53 = some s53 := by kernel_rfl
theorem t54 : stripFn Try.prog kd 54 Try.f54 = some s54 := by kernel_rfl
theorem t55 : stripFn Try.prog kd 55 Try.f55 = some s55 := by kernel_rfl
theorem t56 : stripFn Try.prog kd 56 Try.f56 = some s56 := by kernel_rfl
theorem t57 : stripFn Try.prog kd 57 Try.f57 = some s57 := by kernel_rfl
theorem t58 : stripFn Try.prog kd 58 Try.f58 = some s58 := by kernel_rfl
theorem t59 : stripFn Try.prog kd 59 Try.f59 = some s59 := by kernel_rfl
theorem t60 : stripFn Try.prog kd 60 Try.f60 = some s60 := by kernel_rfl
theorem t61 : stripFn Try.prog kd 61 Try.f61 = some s61 := by kernel_rfl
theorem t62 : stripFn Try.prog kd 62 Try.f62 = some s62 := by kernel_rfl
theorem t63 : stripFn Try.prog kd 63 Try.f63 = some s63 := by kernel_rfl
theorem t64 : stripFn Try.prog kd 64 Try.f64 = some s64 := by kernel_rfl
theorem t65 : stripFn Try.prog kd 65 Try.f65 = some s65 := by kernel_rfl
theorem t66 : stripFn Try.prog kd 66 Try.f66 = some s66 := by kernel_rfl
theorem t67 : stripFn Try.prog kd 67 Try.f67 = some s67 := by kernel_rfl
theorem t68 : stripFn Try.prog kd 68 Try.f68 = some s68 := by kernel_rfl
theorem t69 : stripFn Try.prog kd 69 Try.f69 = some s69 := by kernel_rfl
theorem t70 : stripFn Try.prog kd 70 Try.f70 = some s70 := by kernel_rfl
theorem t71 : stripFn Try.prog kd 71 Try.f71 = some s71 := by kernel_rfl
theorem t72 : stripFn Try.prog kd 72 Try.f72 = some s72 := by kernel_rfl
theorem t73 : stripFn Try.prog kd 73 Try.f73 = some s73 := by kernel_rfl
theorem t74 : stripFn Try.prog kd 74 Try.f74 = some s74 := by kernel_rfl
theorem t75 : stripFn Try.prog kd 75 Try.f75 = some s75 := by kernel_rfl
theorem t76 : stripFn Try.prog kd 76 Try.f76 = some s76 := by kernel_rfl
theorem t77 : stripFn Try.prog kd 77 Try.f77 = some s77 := by kernel_rfl
theorem t78 : stripFn Try.prog kd 78 Try.f78 = some s78 := by kernel_rfl
theorem t79 : stripFn Try.prog kd 79 Try.f79 = some s79 := by kernel_rfl
theorem t80 : stripFn Try.prog kd 80 Try.f80 = some s80 := by kernel_rfl
theorem t81 : stripFn Try.prog kd 81 Try.f81 = some s81 := by kernel_rfl
theorem t82 : stripFn Try.prog kd 82 Try.f82 = some s82 := by kernel_rfl
theorem t83 : stripFn Try.prog kd 83 Try.f83 = some s83 := by kernel_rfl
theorem t84 : stripFn Try.prog kd 84 Try.f84 = some s84 := by kernel_rfl
theorem t85 : stripFn Try.prog kd 85 Try.f85 = some s85 := by kernel_rfl
theorem t86 : stripFn Try.prog kd 86 Try.f86 = some s86 := by kernel_rfl
theorem t87 : stripFn Try.prog kd 87 Try.f87 = some s87 := by kernel_rfl
theorem t88 : stripFn Try.prog kd 88 Try.f88 = some s88 := by kernel_rfl
theorem t89 : stripFn Try.prog kd 89 Try.f89 = some s89 := by kernel_rfl
theorem t90 : stripFn Try.prog kd 90 Try.f90 = some s90 := by kernel_rfl
theorem t91 : stripFn Try.prog kd 91 Try.f91 = some s91 := by kernel_rfl
theorem t92 : stripFn Try.prog kd 92 Try.f92 = some s92 := by kernel_rfl
theorem t93 : stripFn Try.prog kd 93 Try.f93 = some s93 := by kernel_rfl
theorem t94 : stripFn Try.prog kd 94 Try.f94 = some s94 := by kernel_rfl
theorem t95 : stripFn Try.prog kd 95 Try.f95 = some s95 := by kernel_rfl
theorem t96 : stripFn Try.prog kd 96 Try.f96 = some s96 := by kernel_rfl
theorem t97 : stripFn Try.prog kd 97 Try.f97 = some s97 := by kernel_rfl
theorem t98 : stripFn Try.prog kd 98 Try.f98 = some s98 := by kernel_rfl
theorem t99 : stripFn Try.prog kd 99 Try.f99 = some s99 := by kernel_rfl
theorem t100 : stripFn Try.prog kd 100 Try.f100 = some s100 := by kernel_rfl
theorem t101 : stripFn Try.prog kd 101 Try.f101 = some s101 := by kernel_rfl
theorem t102 : stripFn Try.prog kd 102 Try.f102 = some s102 := by kernel_rfl
theorem t103 : stripFn Try.prog kd 103 Try.f103 = some s103 := by kernel_rfl
theorem t104 : stripFn Try.prog kd 104 Try.f104 = some s104 := by kernel_rfl
theorem t105 : stripFn Try.prog kd 105 Try.f105 = some s105 := by kernel_rfl

theorem hT : ∀ f s, T f = some s → ∃ fn, Try.prog.funcs[f]? = some fn ∧ stripFn Try.prog kd f fn = some s := by
  intro f s h
  unfold T at h
  split at h
  · cases h; exact ⟨_, Try.func3, t3⟩
  · cases h; exact ⟨_, Try.func4, t4⟩
  · cases h; exact ⟨_, Try.func5, t5⟩
  · cases h; exact ⟨_, Try.func6, t6⟩
  · cases h; exact ⟨_, Try.func7, t7⟩
  · cases h; exact ⟨_, Try.func8, t8⟩
  · cases h; exact ⟨_, Try.func9, t9⟩
  · cases h; exact ⟨_, Try.func10, t10⟩
  · cases h; exact ⟨_, Try.func11, t11⟩
  · cases h; exact ⟨_, Try.func12, t12⟩
  · cases h; exact ⟨_, Try.func13, t13⟩
  · cases h; exact ⟨_, Try.func14, t14⟩
  · cases h; exact ⟨_, Try.func15, t15⟩
  · cases h; exact ⟨_, Try.func16, t16⟩
  · cases h; exact ⟨_, Try.func17, t17⟩
  · cases h; exact ⟨_, Try.func18, t18⟩
  · cases h; exact ⟨_, Try.func19, t19⟩
  · cases h; exact ⟨_, Try.func20, t20⟩
  · cases h; exact ⟨_, Try.func21, t21⟩
  · cases h; exact ⟨_, Try.func22, t22⟩
  · cases h; exact ⟨_, Try.func23, t23⟩
  · cases h; exact ⟨_, Try.func24, t24⟩
  · cases h; exact ⟨_, Try.func25, t25⟩
  · cases h; exact ⟨_, Try.func26, t26⟩
  · cases h; exact ⟨_, Try.func27, t27⟩
  · cases h; exact ⟨_, Try.func28, t28⟩
  · cases h; exact ⟨_, Try.func29, t29⟩
  · cases h; exact ⟨_, Try.func30, t30⟩
  · cases h; exact ⟨_, Try.func31, t31⟩
  · cases h; exact ⟨_, Try.func32, t32⟩
  · cases h; exact ⟨_, Try.func33, t33⟩
  · cases h; exact ⟨_, Try.func34, t34⟩
  · cases h; exact ⟨_, Try.func35, t35⟩
  · cases h; exact ⟨_, Try.func36, t36⟩
  · cases h; exact ⟨_, Try.func37, t37⟩
  · cases h; exact ⟨_, Try.func38, t38⟩
  · cases h; exact ⟨_, Try.func39, t39⟩
  · cases h; exact ⟨_, Try.func40, t40⟩
  · cases h; exact ⟨_, Try.func41, t41⟩
  · cases h; exact ⟨_, Try.func42, t42⟩
  · cases h; exact ⟨_, Try.func43, t43⟩
  · cases h; exact ⟨_, Try.func44, t44⟩
  · cases h; exact ⟨_, Try.func45, t45⟩
  · cases h; exact ⟨_, Try.func46, t46⟩
  · cases h; exact ⟨_, Try.func47, t47⟩
  · cases h; exact ⟨_, Try.func48, t48⟩
  · cases h; exact ⟨_, Try.func49, t49⟩
  · cases h; exact ⟨_, Try.func50, t50⟩
  · cases h; exact ⟨_, Try.func51, t51⟩
  · cases h; exact ⟨_, Try.func52, t52⟩
  · cases h; exact ⟨_, Try.func53, t53⟩
  · cases h; exact ⟨_, Try.func54, t54⟩
  · cases h; exact ⟨_, Try.func55, t55⟩
  · cases h; exact ⟨_, Try.func56, t56⟩
  · cases h; exact ⟨_, Try.func57, t57⟩
  · cases h; exact ⟨_, Try.func58, t58⟩
  · cases h; exact ⟨_, Try.func59, t59⟩
  · cases h; exact ⟨_, Try.func60, t60⟩
  · cases h; exact ⟨_, Try.func61, t61⟩
  · cases h; exact ⟨_, Try.func62, t62⟩
  · cases h; exact ⟨_, Try.func63, t63⟩
  · cases h; exact ⟨_, Try.func64, t64⟩
  · cases h; exact ⟨_, Try.func65, t65⟩
  · cases h; exact ⟨_, Try.func66, t66⟩
  · cases h; exact ⟨_, Try.func67, t67⟩
  · cases h; exact ⟨_, Try.func68, t68⟩
  · cases h; exact ⟨_, Try.func69, t69⟩
  · cases h; exact ⟨_, Try.func70, t70⟩
  · cases h; exact ⟨_, Try.func71, t71⟩
  · cases h; exact ⟨_, Try.func72, t72⟩
  · cases h; exact ⟨_, Try.func73, t73⟩
  · cases h; exact ⟨_, Try.func74, t74⟩
  · cases h; exact ⟨_, Try.func75, t75⟩
  · cases h; exact ⟨_, Try.func76, t76⟩
  · cases h; exact ⟨_, Try.func77, t77⟩
  · cases h; exact ⟨_, Try.func78, t78⟩
  · cases h; exact ⟨_, Try.func79, t79⟩
  · cases h; exact ⟨_, Try.func80, t80⟩
  · cases h; exact ⟨_, Try.func81, t81⟩
  · cases h; exact ⟨_, Try.func82, t82⟩
  · cases h; exact ⟨_, Try.func83, t83⟩
  · cases h; exact ⟨_, Try.func84, t84⟩
  · cases h; exact ⟨_, Try.func85, t85⟩
  · cases h; exact ⟨_, Try.func86, t86⟩
  · cases h; exact ⟨_, Try.func87, t87⟩
  · cases h; exact ⟨_, Try.func88, t88⟩
  · cases h; exact ⟨_, Try.func89, t89⟩
  · cases h; exact ⟨_, Try.func90, t90⟩
  · cases h; exact ⟨_, Try.func91, t91⟩
  · cases h; exact ⟨_, Try.func92, t92⟩
  · cases h; exact ⟨_, Try.func93, t93⟩
  · cases h; exact ⟨_, Try.func94, t94⟩
  · cases h; exact ⟨_, Try.func95, t95⟩
  · cases h; exact ⟨_, Try.func96, t96⟩
  · cases h; exact ⟨_, Try.func97, t97⟩
  · cases h; exact ⟨_, Try.func98, t98⟩
  · cases h; exact ⟨_, Try.func99, t99⟩
  · cases h; exact ⟨_, Try.func100, t100⟩
  · cases h; exact ⟨_, Try.func101, t101⟩
  · cases h; exact ⟨_, Try.func102, t102⟩
  · cases h; exact ⟨_, Try.func103, t103⟩
  · cases h; exact ⟨_, Try.func104, t104⟩
  · cases h; exact ⟨_, Try.func105, t105⟩
  · cases h

theorem hmix : Try.prog.follows .mixedOrders = true := by kernel_rfl

/-- What the evaluator answers, a call of the program comes to. -/
theorem calls : CallOk Try.prog (callL T) := callL_sound hmix hT

end VS
end Go.Proofs.Ytkhekmmldnjenaa
